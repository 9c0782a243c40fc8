/-
  Engine, part 19: arguments opened: slices of whatever, things of 64-bit numbers.
-/
import Derived.Test.YtibdpdlghibijaaGreatDoorMP6
import Derived.Test.YtibdpdlghibijaaGreatDoorMP2
import Derived.Test.YtibdpdlghibijaaGreatDoorMP5
import Derived.Test.YtibdpdlghibijaaGreatDoorMP7
import Derived.Deep.Slices
namespace Go.Eng
open Go Go.ChangeShapes Go.WideShapes
section
variable {H:Type}{enc:TypeId × Value→H}{P:Program}{w:World}{base:Nat}{sp:Nat→Bool}{held:Bool}
theorem flatten_get {sz:Nat}:∀ {l:List (List Value)}{i:Nat},(∀ x,x∈l→x.length=sz)→∀ (u:Value),l.flatten[i]?=some u→∃ x,l[i / sz]?=some x∧x[i % sz]?=some u∧i / sz < l.length
  | [],i,_,u,hu => by simp at hu
  | y :: l,i,h,u,hu => by
    have hy:=h y (by simp)
    rw [List.flatten_cons] at hu
    rcases Nat.lt_or_ge i y.length with hi | hi
    · rw [List.getElem?_append_left hi] at hu
      have h0:i / sz=0:=Nat.div_eq_of_lt (by omega)
      have h1:i % sz=i:=Nat.mod_eq_of_lt (by omega)
      exact⟨y,by rw [h0]; rfl,by rw [h1]; exact hu,by rw [h0]; simp⟩
    · rw [List.getElem?_append_right hi] at hu
      have hne:0 < sz:=by
        rcases Nat.eq_zero_or_pos sz with h0 | h0
        · exfalso
          have hall:∀ x,x∈l→x=[]:=fun x hx=>List.length_eq_zero_iff.1 (by rw [h x (by simp [hx]),h0])
          have:l.flatten=[]:=by rw [List.flatten_eq_nil_iff]; exact hall
          rw [this] at hu; simp at hu
        · exact h0
      obtain⟨x,h1,h2,h3⟩:=flatten_get (i:=i - y.length) (fun z hz=>h z (by simp [hz])) u hu
      rw [hy] at h1 h2 h3 hi
      have e1:i / sz=(i - sz) / sz+1:=by rw [Nat.div_eq_sub_div hne hi]
      have e2:i % sz=(i - sz) % sz:=by rw [Nat.mod_eq_sub_mod hi]
      exact⟨x,by rw [e1]; simpa using h1,by rw [e2]; exact h2,by rw [e1]; simpa using h3⟩
theorem open_rows {t e:TypeId}{fuel:Nat}{cs:List Value}{x:DataW H × List MemPlace}(ht:P.underlying t=some (.slice e)) (hpos:0 < P.cellsOf e) (h:DataW.trod enc P w base sp held fuel t cs=some x) :
    ∃ (a:Option Addr) (rows:List (List Value)) (cap:Nat),cs=[.slice a rows.length cap]∧SlOk w a rows.flatten∧rows.length≤9223372036854775807∧∀ r,r∈rows→r.length=P.cellsOf e∧∃ n y,DataW.trod enc P w base sp held n e r=some y:=by
  rcases Deep.open_slice ht h with⟨rfl,-⟩ | ⟨a,len,cap,m,n,D,Pl,rfl,hb,hl,hm,hmm,-,hx⟩
  · exact⟨none,[],0,rfl,.inl rfl,by simp,by simp⟩
  have hlm:len≤m:=by rw [hmm]; split <;> omega
  obtain⟨R,hR⟩:=Deep.choose_lt (α:=List Value) (n:=len) (p:=fun i r=>w.cells? base (a.add (i * P.cellsOf e)) (P.cellsOf e)=some r∧DataW.trod enc P w base sp held n e r=some (D i,Pl i)) (fun i hi=>hx i (by omega))
  have hlen:∀ i,i < len→(R i).length=P.cellsOf e:=fun i hi=>(World.cells?_some (hR i hi).1).2.1
  have hlr:((List.range len).map R).length=len:=by simp
  have hall:∀ r,r∈(List.range len).map R→r.length=P.cellsOf e:=by
    intro r hr
    simp only [List.mem_map,List.mem_range] at hr
    obtain⟨i,hi,rfl⟩:=hr
    exact hlen i hi
  have hmx:maxLen≤9223372036854775807:=by decide
  refine⟨some a,(List.range len).map R,cap,by rw [hlr],?_,by rw [hlr]; omega,fun r hr =>⟨hall r hr,?_⟩⟩
  · by_cases h00:len=0
    · subst h00; left; simp
    · have hsp:a.spot=none:=by
        have h1:=(World.cells?_some (hR 0 (by omega)).1).2.2 0 hpos
        have h2:0 < (R 0).length:=by rw [hlen 0 (by omega)]; exact hpos
        rw [List.getElem?_eq_getElem h2] at h1
        have e0:(a.add (0 * P.cellsOf e)).add 0=a:=by simp [Addr.add]
        rw [e0] at h1
        unfold World.cell? at h1
        split at h1
        · cases hs:a.spot with
          | none => rfl
          | some q => rw [hs] at h1; simp at h1
        · cases h1
      obtain⟨b,o,s⟩:=a
      simp only at hsp; subst hsp
      right
      refine⟨b,o,rfl,fun j u hu=>?_⟩
      obtain⟨r,h1,h2,h3⟩:=flatten_get hall u hu
      rw [hlr] at h3
      rw [List.getElem?_map,List.getElem?_range h3] at h1
      simp only [Option.map_some,Option.some.injEq] at h1
      subst h1
      have h4:=(World.cells?_some (hR _ h3).1).2.2 (j % P.cellsOf e) (Nat.mod_lt _ hpos)
      rw [h2,Deep.add_add] at h4
      rw [← h4]
      have h5:j / P.cellsOf e * P.cellsOf e+j % P.cellsOf e=j:=Nat.div_add_mod' j (P.cellsOf e)
      rw [h5]
      have:(⟨b,o,none⟩:Addr).add j=⟨b,o+j,none⟩:=by unfold Addr.add; split <;> simp_all
      rw [this]
  · simp only [List.mem_map,List.mem_range] at hr
    obtain⟨i,hi,rfl⟩:=hr
    exact⟨n,_,(hR i hi).2⟩
def recT (P:Program) (e:TypeId) (sz:Nat):Bool:=match P.underlying e with
  | some (.struct fs) => Nat.beq fs.size sz && Nat.beq (P.cellsOf e) sz && (List.range sz).all fun i => match fs[i]? with
    | some f => Nat.beq f.offset i && Nat.beq (P.cellsOf f.type) 1 && (match P.underlying f.type with | some (.int .i64) => true | _ => false)
    | none => false
  | _ => false
theorem open_rec {e:TypeId}{sz fuel:Nat}{cs:List Value}{x:DataW H × List MemPlace}(he:recT P e sz=true) (h:DataW.trod enc P w base sp held fuel e cs=some x):∃ l:List Int,cs=i64s l∧l.length=sz∧∀ y,y∈l→inK .i64 y:=by
  unfold recT at he
  split at he
  case h_2=>cases he
  rename_i fs hs
  simp only [Bool.and_eq_true] at he
  obtain⟨⟨h1,h2⟩,h3⟩:=he
  have h1:=Nat.eq_of_beq_eq_true h1
  have h2:=Nat.eq_of_beq_eq_true h2
  obtain⟨xs,n,-,-,hl,hxl,hf⟩:=DataW.trod_struct hs h
  have hcs:∀ i,i < sz→∃ z:Int,cs[i]?=some (.int .i64 z)∧inK .i64 z:=by
    intro i hi
    have h4:=List.all_eq_true.1 h3 i (List.mem_range.2 hi)
    split at h4
    case h_2=>cases h4
    rename_i f hfi
    simp only [Bool.and_eq_true] at h4
    obtain⟨⟨h5,h6⟩,h7⟩:=h4
    have h5:=Nat.eq_of_beq_eq_true h5
    have h6:=Nat.eq_of_beq_eq_true h6
    split at h7
    case h_2=>cases h7
    rename_i hu
    have h8:=hf i f hfi
    rw [List.getElem?_eq_getElem (by omega)] at h8
    obtain⟨z,h9,-,h10⟩:=DataW.trod_int hu h8
    rw [h5,h6] at h9
    refine⟨z,?_,?_⟩
    · have h11:((cs.drop i).take 1)[0]?=some (.int .i64 z):=by rw [h9]; rfl
      rw [List.getElem?_take_of_lt (by omega),List.getElem?_drop] at h11
      simpa using h11
    · have h11:=lit_in h10
      have e1:IntKind.i64.min=-9223372036854775808:=by decide
      have e2:IntKind.i64.max=9223372036854775807:=by decide
      simp only [inK]; omega
  obtain⟨Z,hZ⟩:=Deep.choose_lt (α:=Int) hcs
  refine⟨(List.range sz).map Z,?_,by simp,fun y hy=>?_⟩
  · apply List.ext_getElem?
    intro i
    rcases Nat.lt_or_ge i sz with hi | hi
    · rw [(hZ i hi).1]
      simp [i64s,hi]
    · rw [List.getElem?_eq_none (by omega),List.getElem?_eq_none (by simp [i64s]; omega)]
  · simp only [List.mem_map,List.mem_range] at hy
    obtain⟨i,hi,rfl⟩:=hy
    exact (hZ i hi).2
theorem choose_mem {α β:Type}{p:α→β→Prop}:∀ (l:List α),(∀ x,x∈l→∃ y,p x y)→∃ m:List β,m.length=l.length∧(∀ (i:Nat) (x:α) (y:β),l[i]?=some x→m[i]?=some y→p x y)∧∀ y,y∈m→∃ x,x∈l∧p x y
  | [],_ =>⟨[],rfl,by simp,by simp⟩
  | x :: l,h => by
    obtain⟨y,hy⟩:=h x (by simp)
    obtain⟨m,h1,h2,h3⟩:=choose_mem l (fun z hz=>h z (by simp [hz]))
    refine⟨y :: m,by simp [h1],fun i a b ha hb=>?_,fun b hb=>?_⟩
    · cases i with
      | zero => simp at ha hb; subst ha; subst hb; exact hy
      | succ i => exact h2 i a b (by simpa using ha) (by simpa using hb)
    · simp only [List.mem_cons] at hb
      rcases hb with rfl | hb
      · exact⟨x,by simp,hy⟩
      · obtain⟨a,ha,hp⟩:=h3 b hb
        exact⟨a,by simp [ha],hp⟩
end
end Go.Eng
