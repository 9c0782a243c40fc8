/-
  Plain laws of numerals and words.
-/
import Derived.Test.YtibdpdlghibijaaGreatDoorMP7
import Derived.Lib.ItoaNum
import Derived.Lib.SplitLaws
import Derived.Lib.ParseIntB
namespace Go.Eng
open Go
theorem dd_dig:∀ (u:Nat) (c:UInt8),c∈Lib.decDigits u→48≤c.toNat∧c.toNat≤57:=by
  intro u
  induction u using Nat.strongRecOn with
  | _ u ih =>
    intro c hc
    rw [Lib.decDigits] at hc
    split at hc
    · rename_i h
      simp only [List.mem_singleton] at hc; subst hc
      rw [UInt8.toNat_ofNat']; omega
    · rename_i h
      rcases List.mem_append.1 hc with hc | hc
      · exact ih (u / 10) (by omega) c hc
      · simp only [List.mem_singleton] at hc; subst hc
        rw [UInt8.toNat_ofNat']; omega
theorem dd_ne (u:Nat):Lib.decDigits u≠[]:=by
  rw [Lib.decDigits]; split <;> simp
theorem pum_app {M:Nat}:∀ {l:List UInt8}{r:List UInt8}{acc v:Nat},Lib.parseUintM M acc l=.ok v→Lib.parseUintM M acc (l++r)=Lib.parseUintM M v r
  | [],r,acc,v,h => by simp only [Lib.parseUintM,Lib.NumEnd.ok.injEq] at h; subst h; rfl
  | c :: l,r,acc,v,h => by
    simp only [List.cons_append,Lib.parseUintM] at h ⊢
    split at h
    · rename_i h1
      rw [if_pos h1]
      split at h
      · cases h
      · rename_i h2
        rw [if_neg h2]
        split at h
        · cases h
        · rename_i h3
          rw [if_neg h3]
          exact pum_app h
    · cases h
theorem pum_dd:∀ (u:Nat),u≤9223372036854775808→Lib.parseUintM 18446744073709551615 0 (Lib.decDigits u)=.ok u:=by
  intro u
  induction u using Nat.strongRecOn with
  | _ u ih =>
    intro hu
    have one:∀ d acc:Nat,d < 10→acc≤922337203685477580→Lib.parseUintM 18446744073709551615 acc [UInt8.ofNat (48+d)]=.ok (acc * 10+d):=by
      intro d acc hd ha
      have e:(UInt8.ofNat (48+d)).toNat=48+d:=by rw [UInt8.toNat_ofNat']; omega
      simp only [Lib.parseUintM,e]
      rw [if_pos (by omega),if_neg (by omega),if_neg (by omega)]
      congr 1; omega
    rw [Lib.decDigits]
    split
    · rename_i h
      have:=one u 0 h (by omega)
      simpa using this
    · rename_i h
      rw [pum_app (ih (u / 10) (by omega) (by omega)),one (u % 10) (u / 10) (by omega) (by omega)]
      congr 1; omega
theorem parse_itoa {n:Int}(h:inK .i64 n):Lib.parseIntB 64 (Lib.itoa n)=.ok n:=by
  simp only [inK] at h
  unfold Lib.itoa
  split
  · rename_i hn
    have hp:=pum_dd n.natAbs (by omega)
    unfold Lib.parseIntB
    have e45:(45:UInt8).toNat=45:=rfl
    simp only [e45,or_true,if_true,Lib.parseUintB,if_neg (dd_ne _)]
    rw [show (2 ^ 64 - 1:Nat)=18446744073709551615 by decide,hp]
    simp only [not_true,false_and,if_false,true_and]
    rw [if_neg (by omega)]
    congr 1; omega
  · rename_i hn
    have hp:=pum_dd n.toNat (by omega)
    have hne:=dd_ne n.toNat
    cases hl:Lib.decDigits n.toNat with
    | nil => exact (hne hl).elim
    | cons c r =>
      have hc:=dd_dig n.toNat c (by rw [hl]; simp)
      rw [hl] at hp
      unfold Lib.parseIntB
      simp only [show ¬ (c.toNat=43∨c.toNat=45) by omega,if_false,Lib.parseUintB,if_neg (List.cons_ne_nil c r)]
      rw [show (2 ^ 64 - 1:Nat)=18446744073709551615 by decide,hp]
      simp only [show ¬ c.toNat=45 by omega,not_false_eq_true,true_and,false_and,if_false]
      rw [if_neg (by omega)]
      congr 1; omega
theorem itoa_inj {a b:Int}(ha:inK .i64 a) (hb:inK .i64 b) (h:Lib.itoa a=Lib.itoa b):a=b:=by
  have h1:=parse_itoa ha
  rw [h,parse_itoa hb] at h1
  simpa using h1.symm
theorem dd_len:∀ (k u:Nat),u < 10 ^ (k+1)→(Lib.decDigits u).length≤k+1
  | 0,u,h => by rw [Lib.decDigits,dif_pos (by simpa using h)]; simp
  | k+1,u,h => by
    rw [Lib.decDigits]
    split
    · simp
    · have:=dd_len k (u / 10) (by rw [Nat.pow_succ] at h; omega)
      rw [List.length_append,List.length_singleton]; omega
theorem itoa_len {n:Int}(h:inK .i64 n):(Lib.itoa n).length≤20:=by
  simp only [inK] at h
  have hp:(10:Nat) ^ 19=10000000000000000000:=by decide
  unfold Lib.itoa
  split
  · have:=dd_len 18 n.natAbs (by rw [hp]; omega)
    rw [List.length_cons]; omega
  · have:=dd_len 18 n.toNat (by rw [hp]; omega)
    omega
def valS (a:Nat) (c:UInt8):Nat:=10 * a+(c.toNat - 48)
def valA (a:Nat) (l:List UInt8):Nat:=l.foldl valS a
def valP (l:List UInt8):Nat:=valA 0 l
theorem valA_app (a:Nat) (l m:List UInt8):valA a (l++m)=valA (valA a l) m:=List.foldl_append
theorem valP_snoc (l:List UInt8) (c:UInt8):valP (l++[c])=10 * valP l+(c.toNat - 48):=by unfold valP; rw [valA_app]; rfl
theorem valA_le (l:List UInt8):∀ a:Nat,a≤valA a l:=by
  induction l with
  | nil => exact fun a => Nat.le_refl a
  | cons c l ih =>
    intro a
    have h1:=ih (valS a c)
    have h2:a≤valS a c:=by unfold valS; omega
    exact Nat.le_trans h2 h1
theorem valP_take (l:List UInt8) (i:Nat):valP (l.take i)≤valP l:=by
  conv=>rhs; rw [← List.take_append_drop i l]
  unfold valP; rw [valA_app]; exact valA_le _ _
theorem valP_dd (u:Nat):valP (Lib.decDigits u)=u:=by
  induction u using Nat.strongRecOn with
  | _ u ih =>
    have e:∀ d,d < 10→(UInt8.ofNat (48+d)).toNat - 48=d:=fun d hd=>by rw [UInt8.toNat_ofNat']; omega
    rw [Lib.decDigits]
    split
    · rename_i h
      rw [show valP [UInt8.ofNat (48+u)]=10 * 0+((UInt8.ofNat (48+u)).toNat - 48) from rfl,e u h]; omega
    · rename_i h
      rw [valP_snoc,ih (u / 10) (by omega),e (u % 10) (by omega)]; omega
def nmB (c:UInt8) (n:Int):List UInt8:=if 0≤n∧n≤1099511627776 then c :: Lib.itoa n else []
def numS (l:List UInt8):Option Nat:=if Lib.decDigits (valP l)=l∧valP l≤1099511627776 then some (valP l) else none
theorem canon:∀ (k:Nat) (l:List UInt8),l.length=k→l≠[]→(∀ c,c∈l→48≤c.toNat∧c.toNat≤57)→(l.length=1∨l.head?≠some 48)→Lib.decDigits (valP l)=l
  | 0,l,hk,h0,_,_ => absurd (List.length_eq_zero_iff.1 hk) h0
  | k+1,l,hk,h0,hd,hz => by
    obtain⟨xs,c,rfl⟩:∃ xs c,l=xs++[c]:=⟨l.dropLast,l.getLast h0,(List.dropLast_concat_getLast h0).symm⟩
    have hc:=hd c (by simp)
    have hcc:UInt8.ofNat (48+(c.toNat - 48))=c:=by rw [show 48+(c.toNat - 48)=c.toNat by omega]; simp
    rw [valP_snoc]
    by_cases hx:xs=[]
    · subst hx
      rw [Lib.decDigits,dif_pos (by simp [valP,valA]; omega)]
      simp only [valP,valA,List.foldl_nil,Nat.mul_zero,Nat.zero_add,List.nil_append]
      rw [hcc]
    · have hp:=List.length_pos_iff.2 hx
      have hh:xs.head?≠some 48:=by
        rcases hz with hz | hz
        · simp at hz; exact absurd hz hx
        · rw [List.head?_append] at hz
          cases xs with
          | nil => exact absurd rfl hx
          | cons x xs => simpa using hz
      have ih:=canon k xs (by simp at hk; omega) hx (fun d hd'=>hd d (by simp [hd'])) (.inr hh)
      have hv:valP xs≠0:=by
        intro e
        rw [e,Lib.decDigits,dif_pos (by decide)] at ih
        rw [← ih] at hh
        exact hh rfl
      rw [Lib.decDigits,dif_neg (by omega),show (10 * valP xs+(c.toNat - 48)) / 10=valP xs by omega,show (10 * valP xs+(c.toNat - 48)) % 10=c.toNat - 48 by omega,ih,hcc]
theorem numS_dec {u:Nat}(h:u≤1099511627776):numS (Lib.decDigits u)=some u:=by
  unfold numS; rw [valP_dd,if_pos ⟨rfl,h⟩]
theorem numS_some {l:List UInt8}{u:Nat}(h:numS l=some u):Lib.decDigits u=l∧u≤1099511627776∧u=valP l:=by
  unfold numS at h
  split at h
  · rename_i h1; cases h; exact⟨h1.1,h1.2,rfl⟩
  · cases h
theorem dd_canon (u:Nat):(∀ c,c∈Lib.decDigits u→48≤c.toNat∧c.toNat≤57)∧Lib.decDigits u≠[]∧((Lib.decDigits u).length=1∨(Lib.decDigits u).head?≠some 48):=by
  induction u using Nat.strongRecOn with
  | _ u ih =>
    by_cases h:u < 10
    · rw [Lib.decDigits,dif_pos h]
      refine⟨fun c hc=>?_,by simp,.inl rfl⟩
      rw [List.mem_singleton] at hc; subst hc
      rw [UInt8.toNat_ofNat']; omega
    · obtain⟨h1,h2,h3⟩:=ih (u / 10) (by omega)
      rw [Lib.decDigits,dif_neg h]
      refine⟨fun c hc=>?_,by simp,.inr ?_⟩
      · rcases List.mem_append.1 hc with hc | hc
        · exact h1 c hc
        · rw [List.mem_singleton] at hc; subst hc
          rw [UInt8.toNat_ofNat']; omega
      · rw [List.head?_append]
        have hne:(Lib.decDigits (u / 10)).head?≠some 48:=by
          rcases h3 with h3 | h3
          · intro e
            obtain⟨c,hc⟩:∃ c,Lib.decDigits (u / 10)=[c]:=List.length_eq_one_iff.1 h3
            have hv:=valP_dd (u / 10)
            rw [hc] at hv e
            simp at e; subst e
            have:valP [48]=0:=rfl
            omega
          · exact h3
        cases hd:Lib.decDigits (u / 10) with
        | nil => exact absurd hd h2
        | cons c l => rw [hd] at hne; simpa using hne
theorem numS_ok {l:List UInt8}(h0:l≠[]) (hd:∀ c,c∈l→48≤c.toNat∧c.toNat≤57) (hz:l.length=1∨l.head?≠some 48) (hm:valP l≤1099511627776):numS l=some (valP l):=by
  unfold numS; rw [if_pos ⟨canon l.length l rfl h0 hd hz,hm⟩]
theorem numS_digit {l:List UInt8}{u:Nat}(h:numS l=some u) {c:UInt8}(hc:c∈l):48≤c.toNat∧c.toNat≤57:=by
  obtain⟨h1,-,-⟩:=numS_some h
  rw [← h1] at hc
  exact (dd_canon u).1 c hc
theorem numS_lead {l:List UInt8}{u:Nat}(h:numS l=some u):l≠[]∧(l.length=1∨l.head?≠some 48):=by
  obtain⟨h1,-,-⟩:=numS_some h
  rw [← h1]
  exact (dd_canon u).2
def headsB:List UInt8:=[104,101,97,100,115]
def kindB (s:List UInt8):Int × Int × Bool :=
  if s=headsB then (3,0,true) else match s with
  | [] => (0,0,false)
  | c :: l => match numS l with
    | some u => if c=115 then (1,u,true) else if c=99 then (2,u,true) else (0,0,false)
    | none => (0,0,false)
end Go.Eng
