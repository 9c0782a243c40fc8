/-
  Engine, part 27: arguments opened: slices of things, by what one thing is.
-/
import Derived.Test.YtibdpdlghibijaaGreatDoorMP9
import Derived.Test.YtibdpdlghibijaaGreatDoorMP12
namespace Go.Eng
open Go Go.ChangeShapes Go.WideShapes
section
variable {H:Type}{enc:TypeId × Value→H}{P:Program}{w:World}{base:Nat}{sp:Nat→Bool}{held:Bool}
theorem open_str_c {t:TypeId}{fuel:Nat}{cs:List Value}{x:DataW H × List MemPlace}(ht:P.underlying t=some .string) (h:DataW.trod enc P w base sp held fuel t cs=some x):∃ l:List UInt8,cs=[str l]∧l.length≤9223372036854775807:=by
  obtain⟨s,rfl,-,hs⟩:=DataW.trod_string ht h
  have hmx:maxLen≤9223372036854775807:=by decide
  refine⟨bl s,by rw [show str (bl s)=.string s by unfold str; rw [mk_bl]],?_⟩
  have:(bl s).length=s.size:=by unfold bl; exact Array.length_toList
  omega
theorem open_i64_c {t:TypeId}{fuel:Nat}{cs:List Value}{x:DataW H × List MemPlace}(ht:P.underlying t=some (.int .i64)) (h:DataW.trod enc P w base sp held fuel t cs=some x):∃ z:Int,cs=[.int .i64 z]∧inK .i64 z:=by
  obtain⟨z,rfl,-,hs⟩:=DataW.trod_int ht h
  have h1:=lit_in hs
  have e1:IntKind.i64.min=-9223372036854775808:=by decide
  have e2:IntKind.i64.max=9223372036854775807:=by decide
  exact⟨z,rfl,by simp only [inK]; omega⟩
theorem open_u8_c {t:TypeId}{fuel:Nat}{cs:List Value}{x:DataW H × List MemPlace}(ht:P.underlying t=some (.int .u8)) (h:DataW.trod enc P w base sp held fuel t cs=some x):∃ z:Int,cs=[.int .u8 z]∧0≤z∧z≤255:=by
  obtain⟨z,rfl,-,hs⟩:=DataW.trod_int ht h
  have h1:=lit_in hs
  have e1:IntKind.u8.min=0:=by decide
  have e2:IntKind.u8.max=255:=by decide
  exact⟨z,rfl,by omega⟩
def fldB (P:Program) (e:TypeId) (i t o c:Nat):Bool:=match P.underlying e with
  | some (.struct fs) => (match fs[i]? with
    | some f => Nat.beq f.type t && Nat.beq f.offset o && Nat.beq (P.cellsOf f.type) c
    | none => false)
  | _ => false
theorem open_fld {e:TypeId}{fuel:Nat}{cs:List Value}{x:DataW H × List MemPlace}(h:DataW.trod enc P w base sp held fuel e cs=some x) (i t o c:Nat) (hb:fldB P e i t o c=true) :
    cs.length=P.cellsOf e∧∃ n y,DataW.trod enc P w base sp held n t ((cs.drop o).take c)=some y:=by
  unfold fldB at hb
  split at hb
  case h_2=>cases hb
  rename_i fs hs
  split at hb
  case h_2=>cases hb
  rename_i f hfi
  simp only [Bool.and_eq_true] at hb
  obtain⟨⟨h2,h3⟩,h4⟩:=hb
  have h2:=Nat.eq_of_beq_eq_true h2
  have h3:=Nat.eq_of_beq_eq_true h3
  have h4:=Nat.eq_of_beq_eq_true h4
  obtain⟨xs,n,-,-,hl2,hxl,hf2⟩:=DataW.trod_struct hs h
  have hi2:i < fs.size:=(Array.getElem?_eq_some_iff.1 hfi).1
  have h8:=hf2 i f hfi
  rw [List.getElem?_eq_getElem (by omega),h3,h4,h2] at h8
  exact⟨hl2,n,_,h8⟩
theorem open_list {α:Type}{f:α→List Value}{Pr:α→Prop}{t e:TypeId}{fuel:Nat}{cs:List Value}{x:DataW H × List MemPlace}(ht:P.underlying t=some (.slice e)) (hpos:0 < P.cellsOf e)
    (hel:∀ n r y,DataW.trod enc P w base sp held n e r=some y→∃ z,r=f z∧Pr z) (h:DataW.trod enc P w base sp held fuel t cs=some x) :
    ∃ (a:Option Addr) (l:List α) (cap:Nat),cs=[.slice a l.length cap]∧SlOk w a (l.flatMap f)∧(∀ z,z∈l→Pr z)∧l.length≤9223372036854775807:=by
  obtain⟨a,rows,cap,rfl,h1,h2,h3⟩:=open_rows ht hpos h
  obtain⟨m,h4,h5,h6⟩:=choose_mem (p:=fun r z=>r=f z∧Pr z) rows (fun r hr=>by
    obtain⟨-,n,y,hy⟩:=h3 r hr
    exact hel n r y hy)
  have hrows:rows=m.map f:=by
    apply List.ext_getElem?
    intro i
    rcases Nat.lt_or_ge i rows.length with hi | hi
    · have:=(h5 i _ _ (List.getElem?_eq_getElem hi) (List.getElem?_eq_getElem (show i < m.length by omega))).1
      rw [List.getElem?_eq_getElem hi,List.getElem?_map,List.getElem?_eq_getElem (show i < m.length by omega),this]; rfl
    · rw [List.getElem?_eq_none hi,List.getElem?_eq_none (by simp; omega)]
  subst hrows
  refine⟨a,m,cap,by simp,by rw [List.flatMap_def]; exact h1,fun z hz=>?_,by simpa using h2⟩
  obtain⟨r,-,hp⟩:=h6 z hz
  exact hp.2
theorem open_arg {α:Type}{f:α→List Value}{Pr:α→Prop}{r:Reach}{b0:Nat}{t e:TypeId}{v:Value}{d:DataW H}{ps:List MemPlace}(ht:P.underlying t=some (.slice e)) (hpos:0 < P.cellsOf e)
    (hel:∀ n r y,DataW.trod enc P w base sp held n e r=some y→∃ z,r=f z∧Pr z) (hval:Value.okWide P w r b0 t v) (h:DataW.Trod enc P w base sp held t v d ps) :
    ∃ (a:Option Addr) (l:List α) (cap:Nat),v=.slice a l.length cap∧SlOk w a (l.flatMap f)∧(∀ z,z∈l→Pr z)∧l.length≤9223372036854775807:=by
  obtain⟨a0,n0,c0,rfl⟩:=okWide_slice ht hval
  obtain⟨fuel,hn⟩:=h
  obtain⟨a,l,cap,h1,h2,h3,h4⟩:=open_list ht hpos hel hn
  simp [Value.cells] at h1
  obtain⟨rfl,rfl,rfl⟩:=h1
  exact⟨_,l,_,rfl,h2,h3,h4⟩
theorem open_i64s_c {t e:TypeId}{fuel:Nat}{cs:List Value}{x:DataW H × List MemPlace}(ht:P.underlying t=some (.slice e)) (he:P.underlying e=some (.int .i64)) (hc:P.cellsOf e=1) (h:DataW.trod enc P w base sp held fuel t cs=some x) :
    ∃ (a:Option Addr) (l:List Int) (cap:Nat),cs=[.slice a l.length cap]∧SlOk w a (i64s l)∧(∀ z,z∈l→inK .i64 z)∧l.length≤9223372036854775807:=by
  obtain⟨a,l,cap,h1,h2,h3,h4⟩:=open_list (f:=fun z=>[Value.int .i64 z]) (Pr:=inK .i64) ht (by omega) (fun n r y hy=>open_i64_c he hy) h
  rw [← List.map_eq_flatMap] at h2
  exact⟨a,l,cap,h1,h2,h3,h4⟩
end
end Go.Eng
namespace Go.Eng
open Go
end Go.Eng
