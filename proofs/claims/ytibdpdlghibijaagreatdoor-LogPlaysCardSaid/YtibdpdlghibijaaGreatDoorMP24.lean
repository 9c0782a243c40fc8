/-
  Plain laws of layer 21: files found, read, their numbers.
-/
import Derived.Test.YtibdpdlghibijaaGreatDoorMP23
import Derived.Test.YtibdpdlghibijaaGreatDoorMP2
import Derived.Test.YtibdpdlghibijaaGreatDoorMP12
import Derived.Lib.SlicesCompact
import Derived.Test.YtibdpdlghibijaaGreatDoorMP1
namespace Go.Eng
open Go
theorem readF_drop {S:FL}{n:List UInt8}:∀ {i:Nat},(∀ k p,k < i→S[k]?=some p→p.1≠n)→readN S n=readN (S.drop i) n
  | 0,_ => by simp
  | i+1,h => by
    rw [readF_drop (i:=i) (fun k p hk hp=>h k p (by omega) hp)]
    by_cases hl:i < S.length
    · have hi:=List.getElem?_eq_getElem hl
      have hc:readN (S[i] :: S.drop (i+1)) n=if S[i].1=n then S[i].2 else readN (S.drop (i+1)) n:=by
        unfold readN
        rw [List.find?_cons]
        by_cases he:S[i].1=n <;> simp [he]
      rw [List.drop_eq_getElem_cons hl,hc,if_neg (h i _ (by omega) hi)]
    · rw [List.drop_of_length_le (by omega),List.drop_of_length_le (by omega)]
theorem readF_hit {S:FL}{n:List UInt8}{i:Nat}{p:List UInt8 × List UInt8}(h:∀ k p,k < i→S[k]?=some p→p.1≠n) (hp:S[i]?=some p) (hn:p.1=n):readN S n=p.2:=by
  have hl:=(List.getElem?_eq_some_iff.1 hp).1
  rw [readF_drop h,List.drop_eq_getElem_cons hl]
  rw [List.getElem?_eq_getElem hl] at hp
  rw [Option.some.inj hp]
  unfold readN
  rw [List.find?_cons]; simp [hn]
theorem readF_none {S:FL}{n:List UInt8}(h:∀ p,p∈S→p.1≠n):readN S n=[]:=by
  rw [readF_drop (i:=S.length) (fun k p _ hp=>h p (List.mem_of_getElem? hp)),List.drop_of_length_le (Nat.le_refl _)]; rfl
theorem readF_len {S:FL}{n:List UInt8}{m:Nat}(h:∀ p,p∈S→p.2.length≤m):(readN S n).length≤m:=by
  rcases readN_mem (S:=S) (n:=n) with h1 | h1
  · rw [h1]; exact Nat.zero_le _
  · exact h _ h1
theorem readF_step {n:List UInt8}{S:FL}{i:Nat}{x:List UInt8 × List UInt8}(h:∀ j q,j < i→S[j]?=some q→q.1≠n) (hx:S[i]?=some x) (hp:¬ x.1=n):∀ j q,j < i+1→S[j]?=some q→q.1≠n:=by
  intro j q hj hq
  by_cases hji:j=i
  · subst hji; rw [hx] at hq; cases hq; exact hp
  · exact h j q (by omega) hq
def rowL (s:List UInt8):List UInt8:=numL s.length++s
def putH (h:HdB):List UInt8:=numL h.i.toNat++numL h.f.toNat++numL h.c.toNat++numL h.b.toNat++rowL h.p++rowL h.r
def hashH (n:Nat) (h:HdB):List UInt8:=cutH n (putH h)
theorem mayH_in {h:HdB}{n:Int}(hm:mayH h n=true):0≤h.i∧h.i≤1099511627776∧0≤h.f∧h.f≤1099511627776∧1≤h.c∧h.c≤64∧0≤h.b∧h.b≤1099511627776∧(h.p.length:Int)=n∧(h.r.length:Int)=n:=of_decide_eq_true hm
def sumL (r:List (List UInt8)):Nat:=(r.map List.length).sum
theorem sumL_snoc (r:List (List UInt8)) (x:List UInt8):sumL (r++[x])=sumL r+x.length:=by simp [sumL]
end Go.Eng
