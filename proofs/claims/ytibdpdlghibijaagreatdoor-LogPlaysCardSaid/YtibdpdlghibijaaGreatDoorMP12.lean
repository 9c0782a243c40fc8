/-
  Engine, part 21: maps.
-/
import Derived.Test.YtibdpdlghibijaaGreatDoorMP11
import Derived.MapKept
import Derived.Laws.IdiomRangeMap
namespace Go.Eng
open Go Go.MapKept
def Seg.obj (r:Nat) (o:Obj):Seg where
  keys:=[r]
  ok w:=w.heap[r]?=some o
  loc w w' h r:=by rw [h _ (by simp)]; exact r
def MapIs (w:World) (b:Nat) (d:TypeDesc) (L:List (Value × Value)):Prop :=
  ∃ (es:Array MapEntry) (clock:Nat),w.heap[b]?=some (.map es clock)∧Stamped es clock∧(∀ x∈es.toList,IsKey d x.key)∧es.toList.map (fun e=>(e.key,e.val))=L
def Seg.map (b:Nat) (d:TypeDesc) (L:List (Value × Value)):Seg where
  keys:=[b]
  ok w:=MapIs w b d L
  loc w w' h:=by
    rintro⟨es,clock,h1,h2,h3,h4⟩
    exact⟨es,clock,by rw [h _ (by simp)]; exact h1,h2,h3,h4⟩
theorem MapIs.lt {w:World}{b:Nat}{d:TypeDesc}{L:List (Value × Value)}(h:MapIs w b d L):b < w.heap.size:=by
  obtain⟨es,clock,h1,-⟩:=h
  exact (Array.getElem?_eq_some_iff.1 h1).1
theorem MapIs.ext {m:List Nat}{w w':World}{b:Nat}{d:TypeDesc}{L:List (Value × Value)}(h:MapIs w b d L) (he:Ext m w w') (hm:b ∉ m):MapIs w' b d L:=by
  have hlt:=h.lt
  obtain⟨es,clock,h1,h2,h3,h4⟩:=h
  exact⟨es,clock,by rw [he.block _ hlt hm]; exact h1,h2,h3,h4⟩
theorem MapIs.nodup {w:World}{b:Nat}{d:TypeDesc}{L:List (Value × Value)}(h:MapIs w b d L):(L.map (·.1)).Nodup:=by
  obtain⟨es,clock,-,h2,-,h4⟩:=h
  rw [← h4,List.map_map]; exact h2.2.2
theorem eraseIdx_map' {α β:Type}(f:α→β):∀ (l:List α) (i:Nat),(l.eraseIdx i).map f=(l.map f).eraseIdx i
  | [],_ => rfl
  | _ :: _,0 => rfl
  | x :: l,i+1 => by simp [List.eraseIdx,eraseIdx_map' f l i]
theorem find_miss {d:TypeDesc}{k:Value}{es:Array MapEntry}(hk:IsKey d k) (hks:∀ x∈es.toList,IsKey d x.key) (hm:∀ p,p∈es.toList.map (fun e=>(e.key,e.val))→p.1≠k):Instr.findNow d k es.toList 0=some none∧∀ x∈es.toList,x.key≠k:=by
  have h0:∀ x∈es.toList,x.key≠k:=fun x hx=>hm _ (List.mem_map.2 ⟨x,hx,rfl⟩)
  rcases findNow_spec hk es.toList 0 hks with h | ⟨j,e,-,h2,h3⟩
  · exact h
  · exact absurd h3 (h0 e (List.mem_of_getElem? h2))
theorem find_hit {d:TypeDesc}{k v:Value}{i:Nat}{es:Array MapEntry}(hk:IsKey d k) (hks:∀ x∈es.toList,IsKey d x.key) (hn:(es.toList.map (·.key)).Nodup) (hi:(es.toList.map (fun e => (e.key,e.val)))[i]?=some (k,v)) :
    Instr.findNow d k es.toList 0=some (some (i,v))∧∃ e,es[i]?=some e∧e.key=k∧e.val=v:=by
  rw [List.getElem?_map] at hi
  obtain⟨e,he,hp⟩:=Option.map_eq_some_iff.1 hi
  simp only [Prod.mk.injEq] at hp
  obtain⟨hp1,hp2⟩:=hp
  rcases findNow_spec hk es.toList 0 hks with⟨-,h⟩ | ⟨j,e',h1,h2,h3⟩
  · exact absurd hp1 (h e (List.mem_of_getElem? he))
  · have hij:j=i:=by
      have a1:(es.toList.map (·.key))[j]?=some k:=by rw [List.getElem?_map,h2]; simp [h3]
      have a2:(es.toList.map (·.key))[i]?=some k:=by rw [List.getElem?_map,he]; simp [hp1]
      exact (List.getElem?_inj (List.getElem?_eq_some_iff.1 a1).1 hn).1 (a1.trans a2.symm)
    subst hij
    rw [h2] at he
    cases he
    rw [Nat.zero_add] at h1
    exact⟨by rw [h1,hp2],_,by simpa using h2,h3,hp2⟩
section
variable {P:Program}{w:World}{t kt et:TypeId}{d:TypeDesc}{b:Nat}{L:List (Value × Value)}{k v z:Value}
theorem run_look_hit (ht:P.underlying t=some (.map kt et)) (hd:P.underlying kt=some d) (hM:MapIs w b d L) (hk:IsKey d k) {i:Nat}(hi:L[i]?=some (k,v)) (ok:Bool) :
    (Instr.lookup t (.map (some b)) k ok).run P w=.ok (if ok then .tuple #[v,.bool true] else v) w:=by
  obtain⟨es,clock,h1,h2,h3,rfl⟩:=hM
  obtain⟨hf,-⟩:=find_hit hk h3 h2.2.2 hi
  cases ok <;> simp [Instr.lookup,run_underlying ht,MapKept.run_getObj_map h1,run_checkKey hd hk,run_findKey hd hf,Result.andThen]
theorem run_look_miss (ht:P.underlying t=some (.map kt et)) (hd:P.underlying kt=some d) (hz:(zeroValue et).run P w=.ok z w) (hM:MapIs w b d L) (hk:IsKey d k) (hi:∀ p,p∈L→p.1≠k) (ok:Bool) :
    (Instr.lookup t (.map (some b)) k ok).run P w=.ok (if ok then .tuple #[z,.bool false] else z) w:=by
  obtain⟨es,clock,h1,h2,h3,rfl⟩:=hM
  obtain⟨hf,-⟩:=find_miss hk h3 hi
  cases ok <;> simp [Instr.lookup,run_underlying ht,MapKept.run_getObj_map h1,run_checkKey hd hk,run_findKey hd hf,hz,Result.andThen]
theorem run_zero {i:TypeInfo}(hi:P.info? et=some i) (hz:i.zero=some z):(zeroValue et).run P w=.ok z w:=by
  simp [zeroValue,typeInfo,hi,hz,Result.andThen]
theorem run_upd_hit {r:Value}(ht:P.underlying t=some (.map kt et)) (hd:P.underlying kt=some d) (hM:MapIs w b d L) (hk:IsKey d k) {i:Nat}(hi:L[i]?=some (k,v)) :
    ∃ w',(Instr.mapUpdate t (.map (some b)) k r).run P w=.ok () w'∧MapIs w' b d (L.set i (k,r))∧Ext [b] w w'∧w'.heap.size=w.heap.size:=by
  obtain⟨es,clock,h1,h2,h3,rfl⟩:=hM
  obtain⟨hf,e,he,hek,-⟩:=find_hit hk h3 h2.2.2 hi
  have hlt:=(Array.getElem?_eq_some_iff.1 h1).1
  refine⟨{ w with heap:=w.heap.setIfInBounds b (.map (es.modify i fun e=>{ e with key:=k,val:=r }) clock) },?_,⟨_,_,(heap_set h1).1,stamped_modify h2 _ _ (fun _ _=>rfl) ?_,isKey_modify h3 _ _ ?_,?_⟩,⟨rfl,rfl,rfl,(by first | exact Nat.le_refl _ | exact Nat.le_succ _ | exact Nat.le_add_right _ _),by simp,fun r' _ hne=>(heap_set h1).2 r' (by simpa using hne)⟩,by simp⟩
  · simp [Instr.mapUpdate,run_underlying ht,MapKept.run_getObj_map h1,run_checkKey hd hk,run_findKey hd hf,he,hek,run_keyThatStays hk,MapKept.run_setObj_map _ h1,Result.andThen]
  · intro e' _ he'
    rw [he] at he'; cases he'; exact hek.symm
  · intro e' he'
    rw [he] at he'; cases he'; exact hek.symm
  · apply List.ext_getElem?
    intro j
    simp only [List.getElem?_map,Array.getElem?_toList,Array.getElem?_modify,List.getElem?_set,List.length_map,Array.length_toList]
    by_cases hij:i=j
    · subst hij
      have hil:=(Array.getElem?_eq_some_iff.1 he).1
      simp [hil]
    · simp [hij]
theorem run_upd_miss {r:Value}(ht:P.underlying t=some (.map kt et)) (hd:P.underlying kt=some d) (hM:MapIs w b d L) (hk:IsKey d k) (hi:∀ p,p∈L→p.1≠k) :
    ∃ w',(Instr.mapUpdate t (.map (some b)) k r).run P w=.ok () w'∧MapIs w' b d (L++[(k,r)])∧Ext [b] w w'∧w'.heap.size=w.heap.size:=by
  obtain⟨es,clock,h1,h2,h3,rfl⟩:=hM
  obtain⟨hf,hne⟩:=find_miss hk h3 hi
  refine⟨{ w with heap:=w.heap.setIfInBounds b (.map (es.push { key:=k,val:=r,born:=clock }) (clock+1)) },?_,⟨_,_,(heap_set h1).1,stamped_push h2 hne,?_,by simp⟩,⟨rfl,rfl,rfl,(by first | exact Nat.le_refl _ | exact Nat.le_succ _ | exact Nat.le_add_right _ _),by simp,fun r' _ hne=>(heap_set h1).2 r' (by simpa using hne)⟩,by simp⟩
  · simp [Instr.mapUpdate,run_underlying ht,MapKept.run_getObj_map h1,run_checkKey hd hk,run_findKey hd hf,MapKept.run_setObj_map _ h1,Result.andThen]
  · intro x hx
    simp only [Array.toList_push,List.mem_append,List.mem_singleton] at hx
    rcases hx with hx | rfl
    · exact h3 x hx
    · exact hk
theorem run_del_hit {ty:TypeId}(ht:P.underlying t=some (.map kt et)) (hd:P.underlying kt=some d) (hM:MapIs w b d L) (hk:IsKey d k) {i:Nat}(hi:L[i]?=some (k,v)) :
    ∃ w',(Builtin.delete_ #[t,kt] ty #[.map (some b),k]).run P w=.ok (.tuple #[]) w'∧MapIs w' b d (L.eraseIdx i)∧Ext [b] w w'∧w'.heap.size=w.heap.size:=by
  obtain⟨es,clock,h1,h2,h3,rfl⟩:=hM
  obtain⟨hf,e,he,hek,-⟩:=find_hit hk h3 h2.2.2 hi
  have hil:=(Array.getElem?_eq_some_iff.1 he).1
  have e1:(es.eraseIdxIfInBounds i).toList=es.toList.eraseIdx i:=by
    unfold Array.eraseIdxIfInBounds
    rw [dif_pos hil,Array.toList_eraseIdx]
  refine⟨{ w with heap:=w.heap.setIfInBounds b (.map (es.eraseIdxIfInBounds i) clock) },?_,⟨_,_,(heap_set h1).1,stamped_erase h2 _,?_,?_⟩,⟨rfl,rfl,rfl,(by first | exact Nat.le_refl _ | exact Nat.le_succ _ | exact Nat.le_add_right _ _),by simp,fun r' _ hne=>(heap_set h1).2 r' (by simpa using hne)⟩,by simp⟩
  · simp [Builtin.delete_,run_underlying ht,MapKept.run_getObj_map h1,run_checkKey hd hk,run_findKey hd hf,MapKept.run_setObj_map _ h1,Result.andThen]
  · intro x hx
    rw [e1] at hx
    exact h3 x ((List.eraseIdx_sublist _ _).subset hx)
  · rw [e1,eraseIdx_map']
theorem run_del_miss {ty:TypeId}(ht:P.underlying t=some (.map kt et)) (hd:P.underlying kt=some d) (hM:MapIs w b d L) (hk:IsKey d k) (hi:∀ p,p∈L→p.1≠k) :
    ∃ w',(Builtin.delete_ #[t,kt] ty #[.map (some b),k]).run P w=.ok (.tuple #[]) w'∧MapIs w' b d L∧Ext [b] w w'∧w'.heap.size=w.heap.size:=by
  obtain⟨es,clock,h1,h2,h3,rfl⟩:=hM
  obtain⟨hf,hne⟩:=find_miss hk h3 hi
  refine⟨{ w with heap:=w.heap.setIfInBounds b (.map es clock) },?_,⟨_,_,(heap_set h1).1,h2,h3,rfl⟩,⟨rfl,rfl,rfl,(by first | exact Nat.le_refl _ | exact Nat.le_succ _ | exact Nat.le_add_right _ _),by simp,fun r' _ hne=>(heap_set h1).2 r' (by simpa using hne)⟩,by simp⟩
  simp [Builtin.delete_,run_underlying ht,MapKept.run_getObj_map h1,run_checkKey hd hk,run_findKey hd hf,MapKept.run_setObj_map _ h1,Result.andThen]
end
theorem LookOb.hit {P:Program}{S:Base}{bx:Bx}{hp:List Seg}{t kt et:TypeId}{d:TypeDesc}{b:Nat}{L:List (Value × Value)}{k v:Value}(ok:Bool) (ht:P.underlying t=some (.map kt et)) (hd:P.underlying kt=some d)
    (hM:∀ w,WOk S bx hp w→MapIs w b d L) (hk:IsKey d k) {i:Nat}(hi:L[i]?=some (k,v)):LookOb P S bx hp t (.map (some b)) k ok (if ok then .tuple #[v,.bool true] else v) :=
  fun w hw=>run_look_hit ht hd (hM w hw) hk hi ok
theorem LookOb.miss {P:Program}{S:Base}{bx:Bx}{hp:List Seg}{t kt et:TypeId}{d:TypeDesc}{b:Nat}{L:List (Value × Value)}{k z:Value}(ok:Bool) (ht:P.underlying t=some (.map kt et)) (hd:P.underlying kt=some d)
    (hz:∀ w,(zeroValue et).run P w=.ok z w) (hM:∀ w,WOk S bx hp w→MapIs w b d L) (hk:IsKey d k) (hi:∀ p,p∈L→p.1≠k):LookOb P S bx hp t (.map (some b)) k ok (if ok then .tuple #[z,.bool false] else z) :=
  fun w hw=>run_look_miss ht hd (hz w) (hM w hw) hk hi ok
theorem OpOk.makeMap {C:Ctx}{env:Env}{bx:Bx}{hp:List Seg}{S:Base}{o:Oper}{K:Value→Bx→List Seg→Prop}{t:TypeId}(d:TypeDesc) (ho:o.op=.makeMap t none)
    (hk:∀ r,K (.map (some r)) bx (Seg.map r d [] :: hp)):OpOk C o env bx hp S K:=by
  intro w hw ρ hρ
  refine .inl ⟨.map (some w.heap.size),w.alloc (.map #[] 0),bx,_,.inl ?_,hw.newSeg (s':=Seg.map w.heap.size d []) ⟨rfl,rfl,rfl,(by first | exact Nat.le_refl _ | exact Nat.le_succ _ | exact Nat.le_add_right _ _),by simp,fun k hk _=>RowKit.Below.heap_alloc w _ k hk⟩ ⟨_,_,(MapKept.heap_alloc w _).1,stamped_empty 0,by simp,by simp⟩ (by simp [Seg.map]) ?_,hk _⟩
  · unfold execOp
    simp only [ho,Option.map_none]
    simp [Instr.makeMap,Result.andThen]
  · intro k hk
    simp [Seg.map] at hk; subst hk
    exact⟨Nat.le_refl _,by simp⟩
theorem OpOk.mapPush {C:Ctx}{env:Env}{bx:Bx}{hp:List Seg}{S:Base}{o:Oper}{K:Value→Bx→List Seg→Prop}{t kt et:TypeId}{d:TypeDesc}{b:Nat}{L:List (Value × Value)}{k r:Value}{m x y:Operand}(j:Nat)
    (ho:o.op=.mapUpdate t m x y) (hm:Env.ev env m=some (.map (some b))) (hx:Env.ev env x=some k) (hy:Env.ev env y=some r) (ht:C.P.underlying t=some (.map kt et)) (hd:C.P.underlying kt=some d) (hkk:IsKey d k)
    (hj:nth hp j=some (Seg.map b d L)) (hi:∀ p,p∈L→p.1≠k) (hk:K undef bx (setL hp j (Seg.map b d (L++[(k,r)])))):OpOk C o env bx hp S K:=by
  intro w hw ρ hρ
  have hM:MapIs w b d L:=hw.hp _ (nth_mem hj)
  obtain⟨w',h1,h2,h3,h4⟩:=run_upd_miss (r:=r) ht hd hM hkk hi
  refine .inl ⟨undef,w',bx,_,.inr ⟨?_,rfl⟩,hw.setSeg hj (s':=Seg.map b d (L++[(k,r)])) (by simpa [Seg.map] using h3) h2 (by simp [Seg.map]) (fun q hq =>⟨.inl hq,?_⟩),hk⟩
  · unfold execOp
    simp only [ho,hρ _ _ hm,hρ _ _ hx,hρ _ _ hy,Sem.run_bind,h1,Result.andThen_ok,Sem.run_pure]
  · simp [Seg.map] at hq; subst hq; rw [h4]; exact hM.lt
def bltOf (env:Env):Op→Option (Builtin × List TypeId × List Value)
  | .call c => match c.callee with
    | .builtin b => match evs env c.args.toList with
      | some as => some (b,c.argTypes.toList,as)
      | none => none
    | _ => none
  | _ => none
theorem bltOf_ok {P:Program}{env:Env}{o:Oper}{b:Builtin}{ts:List TypeId}{as:List Value}(h:bltOf env o.op=some (b,ts,as)) {ρ:Operand→Value}(hρ:Agree env ρ) {w:World} :
    ∃ cs ty,(execOp ρ o).run P w=(builtin b ⟨ts⟩ ty cs ⟨as⟩).run P w:=by
  unfold bltOf at h
  split at h
  · rename_i c hop
    split at h
    · rename_i b' hc
      split at h
      · rename_i as' has
        simp only [Option.some.injEq,Prod.mk.injEq] at h
        obtain⟨rfl,rfl,rfl⟩:=h
        have e:c.args.map ρ=⟨as'⟩:=by apply Array.ext'; simpa using evs_ok hρ has
        exact⟨_,_,by unfold execOp; rw [hop]; simp [resolve,hc,invoke,e]; rfl⟩
      · cases h
    · cases h
  · cases h
theorem OpOk.mapLen {C:Ctx}{env:Env}{bx:Bx}{hp:List Seg}{S:Base}{o:Oper}{K:Value→Bx→List Seg→Prop}{t kt et:TypeId}{d:TypeDesc}{b:Nat}{L:List (Value × Value)}
    (ho:bltOf env o.op=some (.len,[t],[.map (some b)])) (ht:C.P.underlying t=some (.map kt et)) (hM:∀ w,WOk S bx hp w→MapIs w b d L) (hk:K (.int .i64 L.length) bx hp):OpOk C o env bx hp S K:=by
  intro w hw ρ hρ
  obtain⟨cs,ty,hex⟩:=bltOf_ok (P:=C.P) (w:=w) ho hρ
  obtain⟨es,clock,h1,-,-,h4⟩:=hM w hw
  refine .inl ⟨.int .i64 L.length,w,bx,hp,.inl ?_,hw,hk⟩
  rw [hex]
  have hl:L.length=es.size:=by rw [← h4]; simp
  simp [builtin,Builtin.len_,run_underlying ht,MapKept.run_getObj_map h1,hl,goInt,Result.andThen]
end Go.Eng
namespace Go.Eng
open Go Go.MapKept
def seenOf (es:Array MapEntry) (T:List Nat):Array Nat:=⟨T.map fun i=>((es[i]?).map (·.born)).getD 0⟩
theorem seenOf_snoc (es:Array MapEntry) (T:List Nat) {i:Nat}{e:MapEntry}(he:es[i]?=some e):seenOf es (T++[i])=(seenOf es T).push e.born:=by
  apply Array.toList_inj.1
  simp [seenOf,he]
theorem seenOf_mem {es:Array MapEntry}{clock:Nat}(hs:Stamped es clock) {T:List Nat}(hT:∀ i,i∈T→i < es.size) {i:Nat}{e:MapEntry}(he:es[i]?=some e):(seenOf es T).contains e.born=true↔i∈T:=by
  rw [Array.contains_iff_mem]
  constructor
  · intro h
    have h:e.born∈T.map fun i=>((es[i]?).map (·.born)).getD 0:=by simpa [seenOf] using h
    obtain⟨k,hk,hb⟩:=List.mem_map.1 h
    have hkl:=hT k hk
    rw [Array.getElem?_eq_getElem hkl] at hb
    have a1:(es.toList.map (·.born))[k]?=some e.born:=by rw [List.getElem?_map,Array.getElem?_toList,Array.getElem?_eq_getElem hkl]; simpa using hb
    have a2:(es.toList.map (·.born))[i]?=some e.born:=by rw [List.getElem?_map,Array.getElem?_toList,he]; rfl
    have:=(List.getElem?_inj (List.getElem?_eq_some_iff.1 a1).1 hs.2.1).1 (a1.trans a2.symm)
    subst this; exact hk
  · intro h
    have:e.born∈T.map fun i=>((es[i]?).map (·.born)).getD 0:=List.mem_map.2 ⟨i,h,by rw [he]; rfl⟩
    simpa [seenOf] using this
def Seg.iter (r bm:Nat) (es:Array MapEntry) (clock:Nat) (T:List Nat):Seg:=Seg.obj r (.mapIter (some bm) clock (seenOf es T) clock)
theorem run_next_at {P:Program}{w:World}{r bm clock:Nat}{es:Array MapEntry}{T:List Nat}{ty:TypeId}(hr:w.heap[r]?=some (.mapIter (some bm) clock (seenOf es T) clock)) (hb:w.heap[bm]?=some (.map es clock)) (hs:Stamped es clock) (hT:∀ i,i∈T→i < es.size) :
    ((∀ i,i < es.size→i∈T)∧(Instr.next (.pointer (some ⟨r,0,none⟩)) false ty).run P w=.ok (.tuple #[.bool false]) w) ∨
    ∃ i e w',i ∉ T∧es[i]?=some e∧(Instr.next (.pointer (some ⟨r,0,none⟩)) false ty).run P w=.ok (.tuple #[.bool true,e.key,e.val]) w' ∧
      w'.heap=w.heap.setIfInBounds r (.mapIter (some bm) clock (seenOf es (T++[i])) clock)∧w'.os=w.os∧w'.tape=w.tape∧w'.output=w.output∧w.drawn≤w'.drawn:=by
  have hold:∀ x∈es.toList,x.born < clock:=hs.1
  have hm:∀ x∈(Array.filter (fun e=>!(seenOf es T).contains e.born) es).toList,∃ i,i ∉ T∧es[i]?=some x:=by
    intro x hx
    simp only [Array.toList_filter,List.mem_filter,Bool.not_eq_true'] at hx
    obtain⟨i,hi⟩:=List.mem_iff_getElem?.1 hx.1
    have hi':es[i]?=some x:=by simpa using hi
    refine⟨i,fun h=>?_,hi'⟩
    have:=(seenOf_mem hs hT hi').2 h
    rw [this] at hx; simp at hx
  have hempty:(Array.filter (fun e=>!(seenOf es T).contains e.born) es).size=0→∀ i,i < es.size→i∈T:=by
    intro h0 i hi
    have he:=Array.getElem?_eq_getElem hi
    rw [← seenOf_mem hs hT he]
    cases hc:(seenOf es T).contains es[i].born with
    | true => rfl
    | false =>
      have hmem:es[i]∈(Array.filter (fun e=>!(seenOf es T).contains e.born) es).toList:=by
        simp only [Array.toList_filter,List.mem_filter,Bool.not_eq_true']
        exact⟨by simp,hc⟩
      rw [Array.eq_empty_of_size_eq_zero h0] at hmem
      simp at hmem
  have hgr:(getObj r).run P w=.ok (.mapIter (some bm) clock (seenOf es T) clock) w:=by simp [getObj,Sem.run,hr]
  simp only [Instr.next,Sem.run_bind,hgr,Result.andThen,MapKept.run_getObj_map hb,next_test_false (seenOf es T) es clock clock hold (Nat.le_refl _),Bool.false_eq_true,if_false]
  have hmem:∀ x∈(Array.filter (fun e=>!(seenOf es T).contains e.born) es).toList,x.born < clock:=fun x hx=>hold x (by simp at hx ⊢; exact hx.1)
  generalize Array.filter (fun e=>!(seenOf es T).contains e.born) es=L at hmem hm hempty ⊢
  have e1:L.filter (fun x=>decide (x.born < clock))=L:=Array.filter_eq_self.2 (fun x hx=>by simpa using hmem x (by simpa using hx))
  have e2:L.filter (fun x=>decide (x.born ≥ clock))=#[]:=by
    rw [Array.filter_eq_empty_iff]
    intro x hx
    have:=hmem x (by simpa using hx)
    simp
    omega
  simp only [e1,e2,Array.append_empty]
  by_cases h0:L.size=0
  · left
    have:L=#[]:=Array.eq_empty_of_size_eq_zero h0
    subst this
    refine⟨hempty h0,?_⟩
    simp [choose,Sem.run,Question.forced]
  · right
    have hne:L.isEmpty=false:=by simp [Array.isEmpty,h0]
    simp only [hne,Bool.false_eq_true,if_false,Array.empty_append,Array.size_map]
    have hch:∃ (j:Nat) (w1:World),j < L.size∧w1.heap=w.heap∧w1.os=w.os∧w1.tape=w.tape∧w1.output=w.output∧w.drawn≤w1.drawn∧(choose (Question.mapNext L.size)).run P w=.ok j w1:=by
      by_cases hf:L.size≤1
      · exact⟨0,w,by omega,rfl,rfl,rfl,rfl,Nat.le_refl _,by simp [choose,Sem.run,Question.forced,hf]⟩
      · exact⟨_,w.drew,Nat.mod_lt _ (by omega),rfl,rfl,rfl,rfl,Nat.le_succ _,by
          simp only [choose,Sem.run,Question.forced,decide_eq_true_eq,hf,if_false,Question.cut]
          rfl⟩
    obtain⟨j,w1,hj,hh,ho1,ho2,ho3,ho4,hrun⟩:=hch
    obtain⟨i,hi,hie⟩:=hm L[j] (by simp)
    have hset:∀ o',(setObj r o').run P w1=.ok () { w1 with heap:=w1.heap.setIfInBounds r o' }:=fun o'=>by
      simp [setObj,Sem.run,hh,hr]
    refine⟨i,L[j],{ w1 with heap:=w1.heap.setIfInBounds r (.mapIter (some bm) clock ((seenOf es T).push L[j].born) clock) },hi,hie,?_,by rw [seenOf_snoc es T hie,← hh],ho1,ho2,ho3,ho4⟩
    simp only [hrun,Array.getElem?_map,Array.getElem?_eq_getElem hj,Option.map_some,Sem.run_bind,hset,Result.andThen]
    rfl
theorem OpOk.rangeMap {C:Ctx}{env:Env}{bx:Bx}{hp:List Seg}{S:Base}{o:Oper}{K:Value→Bx→List Seg→Prop}{t kt et:TypeId}{x:Operand}{bm clock:Nat}{es:Array MapEntry}
    (ho:o.op=.range t x) (hx:Env.ev env x=some (.map (some bm))) (ht:C.P.underlying t=some (.map kt et)) (hM:∀ w,WOk S bx hp w→w.heap[bm]?=some (.map es clock))
    (hk:∀ r,K (.pointer (some ⟨r,0,none⟩)) bx (Seg.iter r bm es clock [] :: hp)):OpOk C o env bx hp S K:=by
  intro w hw ρ hρ
  refine .inl ⟨.pointer (some ⟨w.heap.size,0,none⟩),w.alloc (.mapIter (some bm) clock #[] clock),bx,_,.inl ?_,hw.newSeg (s':=Seg.iter w.heap.size bm es clock []) ⟨rfl,rfl,rfl,(by first | exact Nat.le_refl _ | exact Nat.le_succ _ | exact Nat.le_add_right _ _),by simp,fun k hk _=>RowKit.Below.heap_alloc w _ k hk⟩ (MapKept.heap_alloc w _).1 (by simp [Seg.iter,Seg.obj]) ?_,hk _⟩
  · unfold execOp
    simp only [ho,hρ _ _ hx]
    simp [run_range_map w t kt et bm es clock ht (hM w hw),Result.andThen]
  · intro k hk
    simp [Seg.iter,Seg.obj] at hk; subst hk
    exact⟨Nat.le_refl _,by simp⟩
theorem OpOk.nextMap {C:Ctx}{env:Env}{bx:Bx}{hp:List Seg}{S:Base}{o:Oper}{K:Value→Bx→List Seg→Prop}{x:Operand}{r bm clock:Nat}{es:Array MapEntry}{T:List Nat}(j:Nat)
    (ho:o.op=.next x false) (hx:Env.ev env x=some (.pointer (some ⟨r,0,none⟩))) (hj:nth hp j=some (Seg.iter r bm es clock T)) (hM:∀ w,WOk S bx hp w→w.heap[bm]?=some (.map es clock)) (hs:Stamped es clock) (hT:∀ i,i∈T→i < es.size)
    (hdone:(∀ i,i < es.size→i∈T)→K (.tuple #[.bool false]) bx hp) (hnext:∀ i e,i ∉ T→es[i]?=some e→K (.tuple #[.bool true,e.key,e.val]) bx (setL hp j (Seg.iter r bm es clock (T++[i])))):OpOk C o env bx hp S K:=by
  intro w hw ρ hρ
  have hr:w.heap[r]?=some (.mapIter (some bm) clock (seenOf es T) clock):=hw.hp _ (nth_mem hj)
  have hlt:=(Array.getElem?_eq_some_iff.1 hr).1
  rcases run_next_at (P:=C.P) (ty:=o.type) hr (hM w hw) hs hT with⟨h1,h2⟩ | ⟨i,e,w',h1,h2,h3,h4,h5,h6,h7,h8⟩
  · refine .inl ⟨_,w,bx,hp,.inl ?_,hw,hdone h1⟩
    unfold execOp
    simp only [ho,hρ _ _ hx,Sem.run_bind,h2,Result.andThen_ok,Sem.run_pure]
  · refine .inl ⟨_,w',bx,_,.inl ?_,hw.setSeg hj (s':=Seg.iter r bm es clock (T++[i])) (w':=w') ⟨h5,h6,h7,h8,by rw [h4]; simp,fun k _ hk => ?_⟩ ?_ (by simp [Seg.iter,Seg.obj]) (fun q hq =>⟨.inl hq,?_⟩),hnext i e h1 h2⟩
    · unfold execOp
      simp only [ho,hρ _ _ hx,Sem.run_bind,h3,Result.andThen_ok,Sem.run_pure]
    · rw [h4]
      have hne:k≠r:=by simpa [Seg.iter,Seg.obj] using hk
      simp [Ne.symm hne]
    · show w'.heap[r]?=_
      rw [h4]; simp [hlt]
    · simp [Seg.iter,Seg.obj] at hq; subst hq; rw [h4]; simpa using hlt
theorem OpOk.entryMap {C:Ctx}{env:Env}{bx:Bx}{hp:List Seg}{S:Base}{o:Oper}{K:Value→Bx→List Seg→Prop}{x:Operand}{r bm clock i:Nat}{es:Array MapEntry}{T:List Nat}{e:MapEntry}(j:Nat)
    (ho:o.op=.entry x) (hx:Env.ev env x=some (.pointer (some ⟨r,0,none⟩))) (hj:nth hp j=some (Seg.iter r bm es clock (T++[i]))) (hM:∀ w,WOk S bx hp w→w.heap[bm]?=some (.map es clock)) (hs:Stamped es clock) (he:es[i]?=some e)
    (hk:K (.tuple #[e.key,e.val]) bx hp):OpOk C o env bx hp S K:=by
  intro w hw ρ hρ
  have hr:w.heap[r]?=some (.mapIter (some bm) clock (seenOf es (T++[i])) clock):=hw.hp _ (nth_mem hj)
  have hgr:(getObj r).run C.P w=.ok (.mapIter (some bm) clock (seenOf es (T++[i])) clock) w:=by simp [getObj,Sem.run,hr]
  have hf:es.find? (·.born == e.born)=some e:=by
    rw [← Array.find?_toList]
    exact find_born e es.toList hs.2.1 (List.mem_of_getElem? (by simpa using he))
  refine .inl ⟨_,w,bx,hp,.inl ?_,hw,hk⟩
  unfold execOp
  simp only [ho,hρ _ _ hx,Instr.entry,Sem.run_bind,hgr,Result.andThen,seenOf_snoc es T he,Array.back?_push,MapKept.run_getObj_map (hM w hw),bne_self_eq_false,Bool.false_eq_true,if_false,hf]
  rfl
theorem OpOk.rangeStr {C:Ctx}{env:Env}{bx:Bx}{hp:List Seg}{S:Base}{o:Oper}{K:Value→Bx→List Seg→Prop}{t:TypeId}{x:Operand}{s:ByteArray}
    (ho:o.op=.range t x) (hx:Env.ev env x=some (.string s)) (ht:C.P.underlying t=some .string) (hk:∀ r,K (.pointer (some ⟨r,0,none⟩)) bx (Seg.obj r (.stringIter s 0) :: hp)):OpOk C o env bx hp S K:=by
  intro w hw ρ hρ
  refine .inl ⟨.pointer (some ⟨w.heap.size,0,none⟩),w.alloc (.stringIter s 0),bx,_,.inl ?_,hw.newSeg (s':=Seg.obj w.heap.size (.stringIter s 0)) ⟨rfl,rfl,rfl,(by first | exact Nat.le_refl _ | exact Nat.le_succ _ | exact Nat.le_add_right _ _),by simp,fun k hk _=>RowKit.Below.heap_alloc w _ k hk⟩ (MapKept.heap_alloc w _).1 (by simp [Seg.obj]) ?_,hk _⟩
  · unfold execOp
    simp only [ho,hρ _ _ hx]
    simp [Instr.range,run_underlying ht,Result.andThen]
  · intro k hk
    simp [Seg.obj] at hk; subst hk
    exact⟨Nat.le_refl _,by simp⟩
theorem OpOk.nextStr {C:Ctx}{env:Env}{bx:Bx}{hp:List Seg}{S:Base}{o:Oper}{K:Value→Bx→List Seg→Prop}{x:Operand}{r pos:Nat}{s:ByteArray}(j:Nat)
    (ho:o.op=.next x true) (hx:Env.ev env x=some (.pointer (some ⟨r,0,none⟩))) (hj:nth hp j=some (Seg.obj r (.stringIter s pos)))
    (hdone:s.size≤pos→K (.tuple #[.bool false]) bx hp) (hnext:pos < s.size→∀ c width,Utf8.decode s pos=(c,width)→K (.tuple #[.bool true,.int .i64 pos,.int .i32 c]) bx (setL hp j (Seg.obj r (.stringIter s (pos+width))))):OpOk C o env bx hp S K:=by
  intro w hw ρ hρ
  have hr:w.heap[r]?=some (.stringIter s pos):=hw.hp _ (nth_mem hj)
  have hlt:=(Array.getElem?_eq_some_iff.1 hr).1
  have hgr:(getObj r).run C.P w=.ok (.stringIter s pos) w:=by simp [getObj,Sem.run,hr]
  by_cases hp:pos < s.size
  · obtain⟨c,width,hd⟩:∃ c width,Utf8.decode s pos=(c,width):=⟨_,_,rfl⟩
    have hset:(setObj r (.stringIter s (pos+width))).run C.P w=.ok () { w with heap:=w.heap.setIfInBounds r (.stringIter s (pos+width)) }:=by simp [setObj,Sem.run,hr]
    refine .inl ⟨_,{ w with heap:=w.heap.setIfInBounds r (.stringIter s (pos+width)) },bx,_,.inl ?_,hw.setSeg hj (s':=Seg.obj r (.stringIter s (pos+width))) ⟨rfl,rfl,rfl,(by first | exact Nat.le_refl _ | exact Nat.le_succ _ | exact Nat.le_add_right _ _),by simp,fun k _ hk=>?_⟩ ?_ (by simp [Seg.obj]) (fun q hq =>⟨.inl hq,?_⟩),hnext hp c width hd⟩
    · unfold execOp
      simp only [ho,hρ _ _ hx,Instr.next,Sem.run_bind,hgr,Result.andThen,hp,if_true,hd,hset]
      rfl
    · have hne:k≠r:=by simpa [Seg.obj] using hk
      simp [Ne.symm hne]
    · show (w.heap.setIfInBounds r _)[r]?=_
      simp [hlt]
    · simp [Seg.obj] at hq; subst hq; simpa using hlt
  · refine .inl ⟨_,w,bx,_,.inl ?_,hw,hdone (by omega)⟩
    unfold execOp
    simp only [ho,hρ _ _ hx,Instr.next,Sem.run_bind,hgr,Result.andThen,hp,if_false]
    rfl
def SrcOk (P:Program) (w:World) (src:Value) (u:List Value):Prop:=(Builtin.lenOf src).run P w=.ok u.length w∧∀ k,k≤u.length→(Builtin.firstCells 1 k src).run P w=.ok ⟨u.take k⟩ w
theorem SrcOk.str {P:Program}{w:World}(s:ByteArray):SrcOk P w (.string s) (u8s (bl s)):=by
  refine⟨by simp [Builtin.lenOf,u8s_len,size_bl],fun k _=>?_⟩
  simp only [Builtin.firstCells,Sem.run_pure]
  congr 1
  apply Array.ext'
  simp [u8s,bl]
theorem SrcOk.sl {P:Program}{w:World}{a:Option Addr}{u:List Value}(cap:Nat) (h:SlOk w a u):SrcOk P w (.slice a u.length cap) u:=by
  refine⟨by simp [Builtin.lenOf],fun k hk=>?_⟩
  cases u with
  | nil =>
    have hk0:k=0:=by simpa using hk
    subst hk0
    cases a with
    | none => simp [Builtin.firstCells]
    | some a => simp [Builtin.firstCells,loadCells,loadCellsFrom]
  | cons v u =>
    obtain⟨b,o,rfl,h2⟩:=h.get (by simp)
    have:=run_firstCells_some (P:=P) w 1 k ⟨b,o,none⟩ (v :: u).length cap ((v :: u).take k) (by simp at hk ⊢; omega) (fun j x hx=>by
      rw [Addr.add_lit]
      rw [List.getElem?_take] at hx
      split at hx
      · exact h2 j x hx
      · cases hx)
    simpa using this
theorem OpOk.copyInto {C:Ctx}{env:Env}{bx:Bx}{hp:List Seg}{S:Base}{o:Oper}{K:Value→Bx→List Seg→Prop}{dT sT e t:TypeId}{g off dl dc n cap by_ c m:Nat}{src:Value}{u xs:List Value}(j:Nat)
    (ho:bltOf env o.op=some (.copy,[dT,sT],[.slice (some ⟨g,off,none⟩) dl dc,src])) (ht:elT C.P dT=some e) (hi:infoL C.P e=some (1,by_,c)) (hj:nth hp j=some (Seg.row (some g) t 1 n cap xs))
    (hsrc:∀ w,WOk S bx hp w→SrcOk C.P w src u) (hone:∀ v,v∈u→v.oneCell'=true) (hm:min u.length dl=m) (hl:off+m≤xs.length)
    (hk:K (.int .i64 m) bx (setL hp j (Seg.row (some g) t 1 n cap (putL xs off (u.take m))))):OpOk C o env bx hp S K:=by
  intro w hw ρ hρ
  obtain⟨cs,ty,hex⟩:=bltOf_ok (P:=C.P) (w:=w) ho hρ
  obtain⟨i,z,hi1,-,hs1,-,-⟩:=infoL_ok hi
  have hrow:rowOk w (some g) t 1 n cap xs:=hw.hp _ (nth_mem hj)
  obtain⟨cur,fr,h3,h4,h5,h6⟩:=hrow.blk g rfl
  have hle:xs.length≤cur.size:=by rw [← h5,List.length_take]; simp; omega
  have hlm:(u.take m).length=m:=by rw [List.length_take]; omega
  have hst:=run_storeCells_fr (P:=C.P) g off t fr (u.take m) 0 cur w h3 h6 (by rw [hlm]; omega) (fun v hv=>hone v (List.mem_of_mem_take hv))
  simp only [Nat.add_zero] at hst
  obtain⟨s1,s2⟩:=hsrc w hw
  have s3:=s2 m (by omega)
  refine .inl ⟨.int .i64 m,_,bx,_,.inl ?_,hw.setSeg hj (s':=Seg.row (some g) t 1 n cap (putL xs off (u.take m))) (by simpa [Seg.row] using ext_setRow w g _) (hrow.set (by rw [hlm]; exact hl) h3 h4 h5 h6) (by simp [Seg.row]) (fun k hk =>⟨.inl hk,?_⟩),hk⟩
  · rw [hex]
    simp only [builtin,Builtin.copy_,List.getElem?_toArray,List.getElem?_cons_zero,List.getElem?_cons_succ,Sem.run_bind,run_underlying (elT_ok ht),Result.andThen,s1,Nat.min_def,sizeOf,typeInfo]
    simp only [run_program,hi1,Sem.run_pure,hs1]
    have hm2:(if u.length≤dl then u.length else dl)=m:=by rw [← hm,Nat.min_def]
    rw [hm2,s3]
    simp only [hst]
    rfl
  · simp [Seg.row] at hk
    subst hk
    simp
    exact (Array.getElem?_eq_some_iff.1 h3).1
theorem selL_no {α:Type}(l:List α):selL [] l=[]:=by cases l <;> rfl
structure FileE where
  name:List UInt8
  bytes:List UInt8
  g:Nat
  cap:Nat
def FileE.ent (f:FileE):Value × Value:=(Go.Eng.str f.name,sv (some f.g) f.bytes.length f.cap)
def FileE.nb (f:FileE):List UInt8 × List UInt8:=(f.name,f.bytes)
def FileE.row (t:TypeId) (f:FileE):Seg:=Seg.row (some f.g) t 1 f.bytes.length f.cap (u8s f.bytes)
def Seg.files (t:TypeId) (b:Nat) (F:List FileE):Seg:=Seg.pack [] (Seg.map b .string (F.map FileE.ent) :: F.map (FileE.row t))
theorem str_inj {a b:List UInt8}(h:str a=str b):a=b:=by
  unfold str at h
  injection h with h
  injection h with h
  exact Array.toList_inj.2 h |> (by simpa using ·)
structure FilesOk (w:World) (t:TypeId) (b:Nat) (F:List FileE):Prop where
  map:MapIs w b .string (F.map FileE.ent)
  row:∀ f,f∈F→rowOk w (some f.g) t 1 f.bytes.length f.cap (u8s f.bytes)
theorem Seg.files_ok {t:TypeId}{b:Nat}{F:List FileE}{w:World}:(Seg.files t b F).ok w↔FilesOk w t b F:=by
  constructor
  · intro h
    exact⟨h.2 _ (List.mem_cons_self ..),fun f hf=>h.2 (FileE.row t f) (List.mem_cons_of_mem _ (List.mem_map_of_mem hf))⟩
  · intro h
    refine⟨by simp,fun s hs=>?_⟩
    rcases List.mem_cons.1 hs with rfl | hs
    · exact h.map
    · obtain⟨f,hf,rfl⟩:=List.mem_map.1 hs
      exact h.row f hf
theorem Seg.files_keys (t:TypeId) (b:Nat) (F:List FileE):(Seg.files t b F).keys=b :: F.map (·.g):=by
  have h:∀ F:List FileE,(F.map (FileE.row t)).flatMap (·.keys)=F.map (·.g):=by
    intro F
    induction F with
    | nil => rfl
    | cons f F ih => rw [List.map_cons,List.flatMap_cons,ih]; simp [FileE.row,Seg.row]
  show kys [] _=_
  simp only [kys,List.map_nil,List.nil_append,List.flatMap_cons]
  rw [h]; rfl
theorem WOk.files {S:Base}{bx:Bx}{hp:List Seg}{w:World}{t:TypeId}{b:Nat}{F:List FileE}(h:WOk S bx hp w) (hm:Seg.files t b F∈hp):FilesOk w t b F:=Seg.files_ok.1 (h.hp _ hm)
theorem Own.files {bx:Bx}{hp:List Seg}{w:World}{t:TypeId}{b:Nat}{F:List FileE}(h:Own bx hp w) (hm:Seg.files t b F∈hp):FilesOk w t b F:=Seg.files_ok.1 (h.hp _ hm)
theorem FilesOk.names {w:World}{t:TypeId}{b:Nat}{F:List FileE}(h:FilesOk w t b F):(F.map (·.name)).Nodup:=by
  have:=h.map.nodup
  rw [List.map_map] at this
  have h2:((fun x:Value × Value=>x.1) ∘ FileE.ent)=(fun n=>str n) ∘ (·.name):=rfl
  rw [h2,← List.map_map] at this
  exact List.Pairwise.of_map (fun n=>str n) (fun a b h e=>h (by rw [e])) this
theorem FilesOk.ext {m:List Nat}{w w':World}{t:TypeId}{b:Nat}{F:List FileE}(h:FilesOk w t b F) (he:Ext m w w') (hm:∀ k,k∈b :: F.map (·.g)→k ∉ m):FilesOk w' t b F:=by
  refine⟨h.map.ext he (hm b (by simp)),fun f hf=>?_⟩
  have hr:=h.row f hf
  have hlt:f.g < w.heap.size:=by
    obtain⟨cur,fr,h3,-⟩:=hr.blk f.g rfl
    exact (Array.getElem?_eq_some_iff.1 h3).1
  exact (FileE.row t f).loc w w' (fun k hk=>by
    have:k=f.g:=by simpa [FileE.row,Seg.row] using hk
    subst this
    exact he.block _ hlt (hm _ (List.mem_cons_of_mem _ (List.mem_map_of_mem hf)))) hr
theorem FilesOk.sl {w:World}{t:TypeId}{b:Nat}{F:List FileE}(h:FilesOk w t b F) {f:FileE}(hf:f∈F):SlOk w (svA (some f.g)) (u8s f.bytes):=SlOk.row (h.row f hf)
theorem FilesOk.key {w:World}{t:TypeId}{b:Nat}{F:List FileE}(h:FilesOk w t b F) {f:FileE}(hf:f∈F):f.g < w.heap.size:=by
  obtain⟨cur,fr,h3,-⟩:=(h.row f hf).blk f.g rfl
  exact (Array.getElem?_eq_some_iff.1 h3).1
def getF (F:List FileE) (n:List UInt8):Option FileE:=F.find? fun f=>decide (f.name=n)
def valF (F:List FileE) (n:List UInt8):Value:=match getF F n with
  | some f => sv (some f.g) f.bytes.length f.cap
  | none => sv none 0 0
def bytesF (F:List FileE) (n:List UInt8):List UInt8:=match getF F n with
  | some f => f.bytes
  | none => []
def putF (F:List FileE) (f:FileE):List FileE:=match F.findIdx? fun x => decide (x.name=f.name) with
  | some i => F.set i f
  | none => F++[f]
def delF (F:List FileE) (n:List UInt8):List FileE:=match F.findIdx? fun x => decide (x.name=n) with
  | some i => F.eraseIdx i
  | none => F
theorem getF_some {F:List FileE}{n:List UInt8}{f:FileE}(h:getF F n=some f):f∈F∧f.name=n:=by
  exact⟨List.mem_of_find?_eq_some h,by simpa using List.find?_some h⟩
theorem getF_none {F:List FileE}{n:List UInt8}(h:getF F n=none):∀ f,f∈F→f.name≠n:=by
  intro f hf
  have:=List.find?_eq_none.1 h f hf
  simpa using this
section
variable {P:Program}{S:Base}{bx:Bx}{hp:List Seg}{t mt kt et:TypeId}{b:Nat}{F:List FileE}{n:List UInt8}
theorem ent_get {f:FileE}(hf:f∈F):∃ i:Nat,F[i]?=some f∧(F.map FileE.ent)[i]?=some (str f.name,sv (some f.g) f.bytes.length f.cap):=by
  obtain⟨i,hi⟩:=List.mem_iff_getElem?.1 hf
  exact⟨i,hi,by rw [List.getElem?_map,hi]; rfl⟩
theorem ent_no (h:∀ f,f∈F→f.name≠n):∀ p,p∈F.map FileE.ent→p.1≠str n:=by
  intro p hp
  obtain⟨f,hf,rfl⟩:=List.mem_map.1 hp
  exact fun e=>h f hf (str_inj e)
theorem LookOb.file (ht:P.underlying mt=some (.map kt et)) (hd:P.underlying kt=some .string) (hz:∀ w,(zeroValue et).run P w=.ok (sv none 0 0) w) (hM:∀ w,WOk S bx hp w→FilesOk w t b F) :
    LookOb P S bx hp mt (.map (some b)) (str n) false (valF F n):=by
  unfold valF
  cases h:getF F n with
  | none => exact LookOb.miss false ht hd hz (fun w hw => (hM w hw).map) trivial (ent_no (getF_none h))
  | some f =>
    obtain⟨h1,h2⟩:=getF_some h
    obtain⟨i,-,hi⟩:=ent_get h1
    rw [h2] at hi
    exact LookOb.hit false ht hd (fun w hw=>(hM w hw).map) trivial hi
theorem LookOb.fileOk (ht:P.underlying mt=some (.map kt et)) (hd:P.underlying kt=some .string) (hz:∀ w,(zeroValue et).run P w=.ok (sv none 0 0) w) (hM:∀ w,WOk S bx hp w→FilesOk w t b F) :
    LookOb P S bx hp mt (.map (some b)) (str n) true (.tuple #[valF F n,.bool (getF F n).isSome]):=by
  unfold valF
  cases h:getF F n with
  | none => exact LookOb.miss true ht hd hz (fun w hw => (hM w hw).map) trivial (ent_no (getF_none h))
  | some f =>
    obtain⟨h1,h2⟩:=getF_some h
    obtain⟨i,-,hi⟩:=ent_get h1
    rw [h2] at hi
    exact LookOb.hit true ht hd (fun w hw=>(hM w hw).map) trivial hi
end
theorem FilesOk.slF {w:World}{t:TypeId}{b:Nat}{F:List FileE}(h:FilesOk w t b F) (n:List UInt8):∃ a c,valF F n=.slice a (bytesF F n).length c∧SlOk w a (u8s (bytesF F n)):=by
  unfold valF bytesF
  cases hg:getF F n with
  | none => exact⟨none,0,rfl,.inl rfl⟩
  | some f => exact⟨_,_,rfl,h.sl (getF_some hg).1⟩
theorem run_putF {P:Program}{w:World}{mt kt et t:TypeId}{b:Nat}{F:List FileE}(f:FileE) (ht:P.underlying mt=some (.map kt et)) (hd:P.underlying kt=some .string) (hF:FilesOk w t b F) :
    ∃ w',(Instr.mapUpdate mt (.map (some b)) (str f.name) (sv (some f.g) f.bytes.length f.cap)).run P w=.ok () w'∧MapIs w' b .string ((putF F f).map FileE.ent)∧Ext [b] w w'∧w'.heap.size=w.heap.size:=by
  unfold putF
  cases h:F.findIdx? (fun x=>decide (x.name=f.name)) with
  | none =>
    have hno:∀ x,x∈F→x.name≠f.name:=by
      intro x hx
      have:=List.findIdx?_eq_none_iff.1 h x hx
      simpa using this
    obtain⟨w',h1,h2,h3,h4⟩:=run_upd_miss (r:=sv (some f.g) f.bytes.length f.cap) ht hd hF.map (k:=str f.name) trivial (ent_no hno)
    exact⟨w',h1,by rw [List.map_append]; exact h2,h3,h4⟩
  | some i =>
    obtain⟨hi,hp,-⟩:=List.findIdx?_eq_some_iff_getElem.1 h
    have hn:F[i].name=f.name:=by simpa using hp
    have hg:(F.map FileE.ent)[i]?=some (str f.name,sv (some F[i].g) F[i].bytes.length F[i].cap):=by rw [List.getElem?_map,List.getElem?_eq_getElem hi,← hn]; rfl
    obtain⟨w',h1,h2,h3,h4⟩:=run_upd_hit (r:=sv (some f.g) f.bytes.length f.cap) ht hd hF.map (k:=str f.name) trivial hg
    exact⟨w',h1,by rw [List.map_set]; exact h2,h3,h4⟩
theorem putF_mem {F:List FileE}{f x:FileE}(h:x∈putF F f):x=f∨x∈F:=by
  unfold putF at h
  split at h
  · rcases List.mem_or_eq_of_mem_set h with h | h
    · exact .inr h
    · exact .inl h
  · simp only [List.mem_append,List.mem_singleton] at h
    exact h.symm
theorem putF_keys {F:List FileE}{f:FileE}(hn:(F.map (·.g)).Nodup) (hf:f.g ∉ F.map (·.g)):((putF F f).map (·.g)).Nodup:=by
  unfold putF
  split
  · rename_i i _
    rw [List.map_set]
    rcases Nat.lt_or_ge i (F.map (·.g)).length with hi | hi
    · rw [List.set_eq_take_append_cons_drop,if_pos hi]
      have h1:((F.map (·.g)).take i++(F.map (·.g)).drop (i+1)).Sublist (F.map (·.g)):=by
        conv=>rhs; rw [← List.take_append_drop i (F.map (·.g))]
        exact List.Sublist.append (List.Sublist.refl _) (List.drop_sublist_drop_left _ (Nat.le_succ i))
      have h2:((F.map (·.g)).take i++f.g :: (F.map (·.g)).drop (i+1)).Perm (f.g :: ((F.map (·.g)).take i++(F.map (·.g)).drop (i+1))):=List.perm_middle
      rw [h2.nodup_iff,List.nodup_cons]
      exact⟨fun hm=>hf (h1.subset hm),hn.sublist h1⟩
    · rw [List.set_eq_of_length_le hi]; exact hn
  · rw [List.map_append,List.nodup_append]
    refine⟨hn,by simp,fun a ha b hb=>?_⟩
    simp only [List.map_cons,List.map_nil,List.mem_singleton] at hb
    subst hb
    exact fun e=>hf (e ▸ ha)
theorem OpOk.filesPut {C:Ctx}{env:Env}{bx:Bx}{hp:List Seg}{S:Base}{o:Oper}{K:Value→Bx→List Seg→Prop}{mt kt et t:TypeId}{b:Nat}{F:List FileE}{m x y:Operand}(f:FileE)
    (ho:o.op=.mapUpdate mt m x y) (hm:Env.ev env m=some (.map (some b))) (hx:Env.ev env x=some (str f.name)) (hy:Env.ev env y=some (sv (some f.g) f.bytes.length f.cap)) (ht:C.P.underlying mt=some (.map kt et)) (hd:C.P.underlying kt=some .string)
    (hk:K undef bx (Seg.files t b (putF F f) :: hp)):OpOk C o env bx (FileE.row t f :: Seg.files t b F :: hp) S K:=by
  intro w hw ρ hρ
  have hF:=hw.files (t:=t) (b:=b) (F:=F) (by simp)
  have hr:rowOk w (some f.g) t 1 f.bytes.length f.cap (u8s f.bytes):=hw.hp (FileE.row t f) (by simp)
  obtain⟨w',h1,h2,h3,h4⟩:=run_putF f ht hd hF
  have hk0:kys [] [FileE.row t f,Seg.files t b F]=f.g :: b :: F.map (·.g):=by
    simp only [kys,List.map_nil,List.nil_append,List.flatMap_cons,List.flatMap_nil,List.append_nil,Seg.files_keys]
    simp [FileE.row,Seg.row]
  have hown:Own [] [FileE.row t f,Seg.files t b F] w:=by
    have hp1:(FileE.row t f :: Seg.files t b F :: hp)=[FileE.row t f,Seg.files t b F]++hp:=rfl
    have:=hw.toOwn.sel (bm:=[]) (hm:=[FileE.row t f,Seg.files t b F]) [] [true,true] (by simp only [forceL_eq,selL,selL_no])
    exact this
  have hnd:=hown.nd
  rw [hk0] at hnd
  simp only [List.nodup_cons,List.mem_cons,not_or] at hnd
  obtain⟨⟨hfb,hfF⟩,hbF,hFn⟩:=hnd
  have hkey:∀ k,k∈b :: (putF F f).map (·.g)→k∈f.g :: b :: F.map (·.g):=by
    intro k hk
    rcases List.mem_cons.1 hk with rfl | hk
    · simp
    · obtain⟨x,hx,rfl⟩:=List.mem_map.1 hk
      rcases putF_mem hx with rfl | hx
      · simp
      · exact List.mem_cons_of_mem _ (List.mem_cons_of_mem _ (List.mem_map_of_mem hx))
  have hrow:∀ x,x∈putF F f→rowOk w' (some x.g) t 1 x.bytes.length x.cap (u8s x.bytes):=by
    intro x hx
    have hxw:rowOk w (some x.g) t 1 x.bytes.length x.cap (u8s x.bytes)∧x.g≠b:=by
      rcases putF_mem hx with rfl | hx
      · exact⟨hr,hfb⟩
      · exact⟨hF.row x hx,fun e=>hbF (e ▸ List.mem_map_of_mem (f:=(·.g)) hx)⟩
    have hlt:x.g < w.heap.size:=by
      obtain⟨cur,fr,h5,-⟩:=hxw.1.blk x.g rfl
      exact (Array.getElem?_eq_some_iff.1 h5).1
    exact (FileE.row t x).loc w w' (fun k hk=>by
      have:k=x.g:=by simpa [FileE.row,Seg.row] using hk
      subst this
      exact h3.block _ hlt (by simpa using hxw.2)) hxw.1
  have hown':Own [] [Seg.files t b (putF F f)] w':=by
    refine⟨?_,fun k hk=>?_,by simp,fun s hs=>?_⟩
    · simp only [kys,List.map_nil,List.nil_append,List.flatMap_cons,List.flatMap_nil,List.append_nil,Seg.files_keys,List.nodup_cons]
      refine⟨fun hm=>?_,putF_keys hFn hfF⟩
      have:=hkey b (by simp)
      obtain⟨x,hx,he⟩:=List.mem_map.1 hm
      rcases putF_mem hx with rfl | hx
      · exact hfb he
      · exact hbF (he ▸ List.mem_map_of_mem (f:=(·.g)) hx)
    · simp only [kys,List.map_nil,List.nil_append,List.flatMap_cons,List.flatMap_nil,List.append_nil,Seg.files_keys] at hk
      have:=hown.lt k (by rw [hk0]; exact hkey k hk)
      omega
    · simp only [List.mem_singleton] at hs
      subst hs
      exact Seg.files_ok.2 ⟨h2,hrow⟩
  have hj:=hw.join (bm:=[]) (br:=bx) (hm:=[FileE.row t f,Seg.files t b F]) (hr:=hp) (bx':=[]) (hp':=[Seg.files t b (putF F f)]) (List.Perm.refl _) (List.Perm.refl _) (h3.mono (fun k hk _=>by rw [hk0]; simp at hk; subst hk; simp)) hown' (fun k hk=>by
    simp only [kys,List.map_nil,List.nil_append,List.flatMap_cons,List.flatMap_nil,List.append_nil,Seg.files_keys] at hk
    rw [hk0]
    exact .inl (hkey k hk))
  refine .inl ⟨undef,w',bx,_,.inr ⟨?_,rfl⟩,hj,hk⟩
  unfold execOp
  simp only [ho,hρ _ _ hm,hρ _ _ hx,hρ _ _ hy,Sem.run_bind,h1,Result.andThen_ok,Sem.run_pure]
theorem OpOk.makeFiles {C:Ctx}{env:Env}{bx:Bx}{hp:List Seg}{S:Base}{o:Oper}{K:Value→Bx→List Seg→Prop}{mt:TypeId}(t:TypeId) (ho:o.op=.makeMap mt none)
    (hk:∀ r,K (.map (some r)) bx (Seg.files t r [] :: hp)):OpOk C o env bx hp S K:=by
  intro w hw ρ hρ
  refine .inl ⟨.map (some w.heap.size),w.alloc (.map #[] 0),bx,_,.inl ?_,hw.newSeg (s':=Seg.files t w.heap.size []) ⟨rfl,rfl,rfl,(by first | exact Nat.le_refl _ | exact Nat.le_succ _ | exact Nat.le_add_right _ _),by simp,fun k hk _=>RowKit.Below.heap_alloc w _ k hk⟩ (Seg.files_ok.2 ⟨⟨_,_,(MapKept.heap_alloc w _).1,stamped_empty 0,by simp,by simp⟩,by simp⟩) (by rw [Seg.files_keys]; simp) ?_,hk _⟩
  · unfold execOp
    simp only [ho,Option.map_none]
    simp [Instr.makeMap,Result.andThen]
  · intro k hk
    rw [Seg.files_keys] at hk
    simp at hk; subst hk
    exact⟨Nat.le_refl _,by simp⟩
theorem delF_sub {F:List FileE}{n:List UInt8}:(delF F n).Sublist F:=by
  unfold delF
  split
  · exact List.eraseIdx_sublist _ _
  · exact List.Sublist.refl _
theorem OpOk.filesDel {C:Ctx}{env:Env}{bx:Bx}{hp:List Seg}{S:Base}{o:Oper}{K:Value→Bx→List Seg→Prop}{mt kt et t:TypeId}{b:Nat}{F:List FileE}{n:List UInt8}(j:Nat)
    (ho:bltOf env o.op=some (.delete,[mt,kt],[.map (some b),str n])) (ht:C.P.underlying mt=some (.map kt et)) (hd:C.P.underlying kt=some .string)
    (hj:nth hp j=some (Seg.files t b F)) (hk:K (.tuple #[]) bx (setL hp j (Seg.files t b (delF F n)))):OpOk C o env bx hp S K:=by
  intro w hw ρ hρ
  have hF:=hw.files (t:=t) (b:=b) (F:=F) (nth_mem hj)
  obtain⟨cs,ty,hex⟩:=bltOf_ok (P:=C.P) (w:=w) ho hρ
  have hrun:∃ w',(Builtin.delete_ #[mt,kt] ty #[.map (some b),str n]).run C.P w=.ok (.tuple #[]) w'∧MapIs w' b .string ((delF F n).map FileE.ent)∧Ext [b] w w'∧w'.heap.size=w.heap.size:=by
    unfold delF
    cases h:F.findIdx? (fun x=>decide (x.name=n)) with
    | none =>
      have hno:∀ x,x∈F→x.name≠n:=by
        intro x hx
        have:=List.findIdx?_eq_none_iff.1 h x hx
        simpa using this
      exact run_del_miss ht hd hF.map (k:=str n) trivial (ent_no hno)
    | some i =>
      obtain⟨hi,hp,-⟩:=List.findIdx?_eq_some_iff_getElem.1 h
      have hn:F[i].name=n:=by simpa using hp
      have hg:(F.map FileE.ent)[i]?=some (str n,sv (some F[i].g) F[i].bytes.length F[i].cap):=by rw [List.getElem?_map,List.getElem?_eq_getElem hi,← hn]; rfl
      obtain⟨w',h1,h2,h3,h4⟩:=run_del_hit (ty:=ty) ht hd hF.map (k:=str n) trivial hg
      exact⟨w',h1,by rw [eraseIdx_map']; exact h2,h3,h4⟩
  obtain⟨w',h1,h2,h3,h4⟩:=hrun
  have hin:∀ k,k∈(Seg.files t b F).keys→k∈kys bx hp:=fun k hk=>mem_kys_hp (nth_mem hj) hk
  have hndF:(Seg.files t b F).keys.Nodup:=by
    have:=hw.nd
    unfold kys at this
    have h5:=(List.nodup_append.1 this).2.1
    obtain⟨l1,l2,he⟩:=List.append_of_mem (nth_mem hj)
    rw [he,List.flatMap_append,List.flatMap_cons] at h5
    exact (List.nodup_append.1 (List.nodup_append.1 h5).2.1).1
  rw [Seg.files_keys] at hndF
  have hsub:((delF F n).map (·.g)).Sublist (F.map (·.g)):=delF_sub.map _
  refine .inl ⟨.tuple #[],w',bx,_,.inl ?_,hw.setSeg hj (s':=Seg.files t b (delF F n)) (h3.mono (fun k hk _=>by rw [Seg.files_keys]; simp at hk; subst hk; simp)) (Seg.files_ok.2 ⟨h2,fun f hf=>?_⟩) ?_ (fun q hq=>?_),hk⟩
  · rw [hex]; simp only [builtin,Sem.run_bind,h1,Result.andThen_ok,Sem.run_pure]
  · have hfF:=delF_sub.subset hf
    have hr:=hF.row f hfF
    exact (FileE.row t f).loc w w' (fun k hk=>by
      have:k=f.g:=by simpa [FileE.row,Seg.row] using hk
      subst this
      exact h3.block _ (hF.key hfF) (by
        simp only [List.mem_singleton]
        exact fun e=>(List.nodup_cons.1 hndF).1 (e ▸ List.mem_map_of_mem (f:=(·.g)) hfF))) hr
  · rw [Seg.files_keys]
    exact List.nodup_cons.2 ⟨fun hm=>(List.nodup_cons.1 hndF).1 (hsub.subset hm),(List.nodup_cons.1 hndF).2.sublist hsub⟩
  · rw [Seg.files_keys] at hq ⊢
    have hq':q∈b :: F.map (·.g):=by
      rcases List.mem_cons.1 hq with rfl | hq
      · simp
      · exact List.mem_cons_of_mem _ (hsub.subset hq)
    refine⟨.inl hq',?_⟩
    have:=hw.lt q (hin q (by rw [Seg.files_keys]; exact hq'))
    omega
theorem putL_map {α β:Type}(f:α→β):∀ (ys l:List α) (i:Nat),(putL l i ys).map f=putL (l.map f) i (ys.map f)
  | [],_,_ => rfl
  | y :: ys,l,i => by simp only [putL,List.map_cons,putL_map f ys,setL_eq,List.map_set]
theorem u8s_putL (l:List UInt8) (i:Nat) (ys:List UInt8):u8s (putL l i ys)=putL (u8s l) i (u8s ys):=putL_map _ ys l i
theorem u8s_rep (n:Nat):u8s (List.replicate n 0)=List.replicate n (.int .u8 0):=by simp [u8s]
theorem putL_len {α:Type}(l:List α) (i:Nat) (ys:List α):(putL l i ys).length=l.length:=by
  induction ys generalizing l i with
  | nil => rfl
  | cons y ys ih => rw [putL,ih,setL_eq,List.length_set]
end Go.Eng
namespace Go.Eng
open Go
theorem bl_of (l:List UInt8):bl ⟨l.toArray⟩=l:=by simp [bl]
theorem OpOk.buildNil {C:Ctx}{env:Env}{bx:Bx}{hp:List Seg}{S:Base}{o:Oper}{K:Value→Bx→List Seg→Prop}{t e:TypeId}{sz by_ c:Nat}
    (ho:bldOf o.op=some (t,0,[])) (ht:elT C.P t=some e) (hi:infoL C.P e=some (sz,by_,c)) (hk:∀ g,S.w0.heap.size≤g→K (sv (some g) 0 0) bx (Seg.row (some g) e sz 0 0 [] :: hp)):OpOk C o env bx hp S K:=by
  intro w hw ρ hρ
  obtain⟨i,z,hi1,hz1,hs1,-,-⟩:=infoL_ok hi
  have hop:∃ pa:Array (Nat × Operand),o.op=.buildSlice t 0 pa∧pa.toList=[]:=by
    unfold bldOf at ho
    split at ho
    · rename_i t' n' pa hop
      simp only [Option.some.injEq,Prod.mk.injEq] at ho
      obtain⟨rfl,rfl,h3⟩:=ho
      exact⟨pa,hop,h3⟩
    · cases ho
  obtain⟨pa,hop,hpa⟩:=hop
  have hpa':pa=#[]:=by apply Array.ext'; simpa using hpa
  subst hpa'
  refine .inl ⟨sv (some w.heap.size) 0 0,w.alloc (.cells #[] e),bx,_,.inl ?_,hw.newSeg (s':=Seg.row (some w.heap.size) e sz 0 0 []) ⟨rfl,rfl,rfl,(by first | exact Nat.le_refl _ | exact Nat.le_succ _ | exact Nat.le_add_right _ _),by simp,fun k hk _=>RowKit.Below.heap_alloc w _ k hk⟩ ?_ (by simp [Seg.row]) ?_,hk _ hw.ext.size⟩
  · unfold execOp
    simp only [hop]
    simp [Instr.buildSlice,Sem.run_bind,run_underlying (elT_ok ht),sizeOf,typeInfo,hi1,Instr.fill,newRow,sv,svA,Result.andThen]
    have e0:(Array.range 0)=#[]:=by decide
    rw [e0,Array.map_empty]
  · refine⟨by simp,Nat.le_refl _,by omega,by simp,fun g hg=>?_⟩
    cases hg
    exact⟨#[],(0,0),heap_alloc_new w _,by simp,by simp,.inl rfl⟩
  · intro k hk
    simp [Seg.row] at hk; subst hk
    exact⟨Nat.le_refl _,by simp⟩
theorem OpOk.appendSl {C:Ctx}{env:Env}{bx:Bx}{hp:List Seg}{S:Base}{o:Oper}{K:Value→Bx→List Seg→Prop}{x y:Operand}{t u e:TypeId}{a:Option Nat}{n cap m c2:Nat}{ad:Option Addr}{xs:List Value}(j sz by_:Nat) (news:List Value)
    (ho:appOf o.op=some (x,y,t,u)) (ht:elT C.P t=some e) (hu:elT C.P u=some e) (hi:infoL C.P e=some (sz,by_,sz)) (hj:nth hp j=some (Seg.row a e sz n cap xs)) (hx:Env.ev env x=some (sv a n cap))
    (hy:Env.ev env y=some (.slice ad m c2)) (hsl:∀ w,WOk S bx hp w→SlOk w ad news) (hl:news.length=m * sz) (h0:news≠[]) (h1:∀ v,v∈news→v.oneCell'=true)
    (h63:n+m≤9223372036854775807) (hb:(n+m) * by_≤140737488355328)
    (hk:∀ a' cap',K (sv a' (n+m) cap') bx (setL hp j (Seg.row a' e sz (n+m) cap' (xs++news)))):OpOk C o env bx hp S K:=by
  intro w hw ρ hρ
  obtain⟨b2,o2,rfl,-⟩:=(hsl w hw).get h0
  refine OpOk.append j sz by_ news ho ht hu hi hj hx hy (fun w' hw'=>?_) hl h1 h63 hb hk w hw ρ hρ
  obtain⟨b3,o3,he,h⟩:=(hsl w' hw').get h0
  cases he
  exact h
theorem At.cutU {ι:Type}{C:Ctx}{x:Loc}{df:List Deferred}{env:Env}{bx:Bx}{hp:List Seg}{S:Base}(y:Loc) (e:ι→Env) (b:ι→Bx)
    (hs:∀ i,At C y df (e i) (b i) hp S) (hk:(∀ i,At C y df (e i) (b i) hp S)→At C x df env bx hp S):At C x df env bx hp S:=hk hs
theorem At.reshape {C:Ctx}{x:Loc}{df:List Deferred}{env:Env}{bx br:Bx}{hp hr:List Seg}{S:Base}(h:∀ w,WOk S bx hp w→WOk S br hr w) (hk:At C x df env br hr S):At C x df env bx hp S:=fun w hw=>hk w (h w hw)
theorem WOk.packS {S:Base}{bx0 bx1:Bx}{hp:List Seg}{w:World}(h:WOk S (bx0++bx1) hp w):WOk S bx0 (Seg.pack bx1 [] :: hp) w:=by
  have hk:kys bx0 (Seg.pack bx1 [] :: hp)=kys (bx0++bx1) hp:=by rw [kys_pack]; simp
  refine⟨h.ext,by rw [hk]; exact h.nd,by rw [hk]; exact h.lt,by rw [hk]; exact h.own,fun e he=>h.bx e (List.mem_append_left _ he),fun s hs=>?_⟩
  rcases List.mem_cons.1 hs with rfl | hs
  · exact⟨fun e he=>h.bx e (List.mem_append_right _ he),by simp⟩
  · exact h.hp s hs
theorem WOk.unpackS {S:Base}{bx0 bx1:Bx}{hp:List Seg}{w:World}(h:WOk S bx0 (Seg.pack bx1 [] :: hp) w):WOk S (bx0++bx1) hp w:=by
  have hk:kys bx0 (Seg.pack bx1 [] :: hp)=kys (bx0++bx1) hp:=by rw [kys_pack]; simp
  refine⟨h.ext,by rw [← hk]; exact h.nd,by rw [← hk]; exact h.lt,by rw [← hk]; exact h.own,fun e he=>?_,fun s hs=>h.hp s (List.mem_cons_of_mem _ hs)⟩
  rcases List.mem_append.1 he with he | he
  · exact h.bx e he
  · exact (h.hp _ (List.mem_cons_self ..)).1 e he
def frontL {α:Type}(l:List α) (i:Nat):List α:=match nth l i with
  | some x => x :: l.eraseIdx i
  | none => l
theorem erase_perm {α:Type}:∀ (l:List α) (i:Nat) (x:α),nth l i=some x→l.Perm (x :: l.eraseIdx i)
  | [],i,x,h => by simp [nth] at h
  | y :: l,0,x,h => by simp [nth] at h; subst h; exact List.Perm.refl _
  | y :: l,i+1,x,h => ((erase_perm l i x (by simpa [nth] using h)).cons y).trans (List.Perm.swap _ _ _)
theorem frontL_perm {α:Type}(l:List α) (i:Nat):l.Perm (frontL l i):=by
  unfold frontL
  split
  · rename_i x h
    exact erase_perm l i x h
  · exact List.Perm.refl _
theorem frontsL_perm {α:Type}:∀ (is:List Nat) (l:List α),l.Perm (is.foldl frontL l)
  | [],_ => List.Perm.refl _
  | i :: is,l => (frontL_perm l i).trans (frontsL_perm is _)
theorem At.order {C:Ctx}{x:Loc}{df:List Deferred}{env:Env}{bx br:Bx}{hp hr:List Seg}{S:Base}(ib ih:List Nat) (hb:ib.foldl frontL bx=br) (hh:ih.foldl frontL hp=hr) (hk:At C x df env br hr S):At C x df env bx hp S :=
  At.perm (by rw [← hb]; exact frontsL_perm ib bx) (by rw [← hh]; exact frontsL_perm ih hp) hk
theorem flat_get {α:Type}{f:α→List Value}{sz:Nat}:∀ {l:List α}{i:Nat}{x:α},(∀ x,x∈l→(f x).length=sz)→l[i]?=some x→∀ (j:Nat) (u:Value),(f x)[j]?=some u→(l.flatMap f)[i * sz+j]?=some u
  | [],i,x,_,h,_,_,_ => by simp at h
  | y :: l,0,x,hl,h,j,u,hu => by
    simp only [List.getElem?_cons_zero,Option.some.injEq] at h; subst h
    rw [List.flatMap_cons,Nat.zero_mul,Nat.zero_add,List.getElem?_append_left]
    · exact hu
    · exact (List.getElem?_eq_some_iff.1 hu).1
  | y :: l,i+1,x,hl,h,j,u,hu => by
    have hy:=hl y (by simp)
    rw [List.flatMap_cons,List.getElem?_append_right (by rw [hy,Nat.succ_mul]; omega),hy,show (i+1) * sz+j - sz=i * sz+j by rw [Nat.succ_mul]; omega]
    exact flat_get (fun z hz=>hl z (by simp [hz])) (by simpa using h) j u hu
theorem flat_len {α:Type}{f:α→List Value}{sz:Nat}:∀ {l:List α},(∀ x,x∈l→(f x).length=sz)→(l.flatMap f).length=l.length * sz
  | [],_ => by simp
  | x :: l,h => by
    rw [List.flatMap_cons,List.length_append,h x (by simp),flat_len (fun y hy=>h y (by simp [hy])),List.length_cons,Nat.succ_mul,Nat.add_comm]
abbrev FL:=List (List UInt8 × List UInt8)
def flC (p:List UInt8 × List UInt8):List Value:=[str p.1,str p.2]
def fl (S:FL):List Value:=S.flatMap flC
theorem fl_get {S:FL}{i:Nat}{p:List UInt8 × List UInt8}(h:S[i]?=some p):∀ (j:Nat) (u:Value),(flC p)[j]?=some u→(fl S)[i * 2+j]?=some u:=flat_get (fun _ _=>rfl) h
theorem fl_snoc (S:FL) (p:List UInt8 × List UInt8):fl (S++[p])=fl S++flC p:=by simp [fl]
theorem fl_ne {S:FL}(h:S≠[]):fl S≠[]:=by
  cases S with
  | nil => exact (h rfl).elim
  | cons p S => simp [fl,flC]
section
variable {S0:Base}{bx:Bx}{hp:List Seg}{g o:Nat}{S:FL}{i:Nat}{p:List UInt8 × List UInt8}
theorem RdW.fileE {off:Nat}(hc:∀ j u,(fl S)[j]?=some u→S0.w0.cell? ⟨g,o+j,none⟩=some u) (hm:g ∉ S0.mods) (h:S[i]?=some p) (ho:off=o+i * 2):RdW S0 bx hp g off [str p.1,str p.2] :=
  RdW.sl hc hm (i * 2) ho (fl_get h)
theorem RdW.fileN {off:Nat}(hc:∀ j u,(fl S)[j]?=some u→S0.w0.cell? ⟨g,o+j,none⟩=some u) (hm:g ∉ S0.mods) (h:S[i]?=some p) (ho:off=o+i * 2):RdW S0 bx hp g off [str p.1] :=
  RdW.sl hc hm (i * 2) ho (fun j u hu=>fl_get h j u (by
    match j,hu with
    | 0,hu => exact hu))
theorem RdW.fileB {off:Nat}(hc:∀ j u,(fl S)[j]?=some u→S0.w0.cell? ⟨g,o+j,none⟩=some u) (hm:g ∉ S0.mods) (h:S[i]?=some p) (ho:off=o+i * 2+1):RdW S0 bx hp g off [str p.2] :=
  RdW.sl hc hm (i * 2+1) (by omega) (fun j u hu=>by
    match j,hu with
    | 0,hu => exact fl_get h 1 u hu)
end
def okE (namedB:List UInt8→Bool) (p:List UInt8 × List UInt8):Bool:=namedB p.1 && !decide (p.2=[])
def ltN (p q:List UInt8 × List UInt8):Bool:=Op.bytesLess p.1 q.1
def risN:FL→Bool
  | p :: q :: S => ltN p q && risN (q :: S)
  | _ => true
theorem risN_iff:∀ S:FL,risN S=true↔∀ i x y,S[i]?=some x→S[i+1]?=some y→ltN x y=true
  | [] => by simp [risN]
  | [x] => by simp [risN]
  | x :: y :: l => by
    have ih:=risN_iff (y :: l)
    rw [risN,Bool.and_eq_true,ih]
    constructor
    · rintro⟨h1,h2⟩ i a b ha hb
      cases i with
      | zero => simp at ha hb; subst ha; subst hb; exact h1
      | succ i => exact h2 i a b (by simpa using ha) (by simpa using hb)
    · intro h
      exact⟨h 0 x y rfl rfl,fun i a b ha hb=>h (i+1) a b (by simpa using ha) (by simpa using hb)⟩
theorem risN_false {S:FL}{i:Nat}{x y:List UInt8 × List UInt8}(hx:S[i]?=some x) (hy:S[i+1]?=some y) (h:ltN x y=false):risN S=false:=by
  cases hr:risN S with
  | false => rfl
  | true => have:=(risN_iff S).1 hr i x y hx hy; rw [h] at this; cases this
theorem risN_ok {S:FL}{i:Nat}(h:∀ t x y,t+1 < i→S[t]?=some x→S[t+1]?=some y→ltN x y=true) (hi:S.length≤i):risN S=true :=
  (risN_iff S).2 fun t x y hx hy=>h t x y (by have:=(List.getElem?_eq_some_iff.1 hy).1; omega) hx hy
end Go.Eng
namespace Go.Eng
open Go
theorem kys_freeze (bx:Bx) (s:Seg) (ex hp:List Seg):kys bx (Seg.pack [] (s :: ex) :: hp)=kys bx (s :: Seg.pack [] ex :: hp):=by
  simp [kys,Seg.pack]
theorem WOk.freeze {S:Base}{bx:Bx}{s:Seg}{ex hp:List Seg}{w:World}(h:WOk S bx (s :: Seg.pack [] ex :: hp) w):WOk S bx (Seg.pack [] (s :: ex) :: hp) w:=by
  refine⟨h.ext,by rw [kys_freeze]; exact h.nd,by rw [kys_freeze]; exact h.lt,by rw [kys_freeze]; exact h.own,h.bx,fun t ht=>?_⟩
  rcases List.mem_cons.1 ht with rfl | ht
  · refine⟨by simp,fun t ht=>?_⟩
    rcases List.mem_cons.1 ht with rfl | ht
    · exact h.hp _ (by simp)
    · exact (h.hp (Seg.pack [] ex) (by simp)).2 t ht
  · exact h.hp t (by simp [ht])
theorem WOk.freeze0 {S:Base}{bx:Bx}{hp:List Seg}{w:World}(h:WOk S bx hp w):WOk S bx (Seg.pack [] [] :: hp) w:=WOk.packS (bx1:=[]) (by rw [List.append_nil]; exact h)
def Fz (S:Base) (ex:List Seg) (a:Option Addr) (xs:List Value):Prop:=∀ w,Ext S.mods S.w0 w→(∀ s,s∈ex→s.ok w)→SlOk w a xs
theorem Fz.base {S:Base}{ex:List Seg}{a:Option Addr}{xs:List Value}(hm:S.mods=[]) (h:SlOk S.w0 a xs):Fz S ex a xs:=fun _ he _=>h.ext he (by simp [hm])
theorem Fz.mono {S:Base}{ex ex':List Seg}{a:Option Addr}{xs:List Value}(h:Fz S ex a xs) (hs:∀ s,s∈ex→s∈ex'):Fz S ex' a xs:=fun w he hw=>h w he fun s hm=>hw s (hs s hm)
theorem Fz.cons {S:Base}{ex:List Seg}{s:Seg}{a:Option Addr}{xs:List Value}(h:Fz S ex a xs):Fz S (s :: ex) a xs:=h.mono fun _ hm=>List.mem_cons_of_mem _ hm
theorem Fz.row {S:Base}{ex:List Seg}{a:Option Nat}{t:TypeId}{sz n cap:Nat}{xs:List Value}:Fz S (Seg.row a t sz n cap xs :: ex) (svA a) xs:=fun _ _ hw=>SlOk.row (hw _ (List.mem_cons_self ..))
theorem Fz.nil {S:Base}{ex:List Seg}{a:Option Addr}:Fz S ex a []:=fun _ _ _=>.inl rfl
theorem Fz.at {S:Base}{ex:List Seg}{a:Option Addr}{xs:List Value}{bx:Bx}{hp:List Seg}{w:World}(h:Fz S ex a xs) (hw:WOk S bx hp w) (hm:Seg.pack [] ex∈hp):SlOk w a xs:=h w hw.ext fun s hs=>(hw.hp _ hm).2 s hs
theorem At.cutS {ι:Type}{C:Ctx}{x:Loc}{df:List Deferred}{env:Env}{bx:Bx}{hp:List Seg}{S:Base}(y:Loc) (e:ι→Env) (b:ι→Bx) (h:ι→List Seg)
    (hs:∀ i,At C y df (e i) (b i) (h i) S) (hk:(∀ i,At C y df (e i) (b i) (h i) S)→At C x df env bx hp S):At C x df env bx hp S:=hk hs
theorem AtD.cutS {ι:Type}{C:Ctx}{p:List Nat}{df:List Deferred}{fuel0:Nat}{listed0:Array Bool}{env0:Env}{bx0:Bx}{hp0:List Seg}{S:Base}(fuel:Nat) (listed:Array Bool) (e:ι→Env) (b:ι→Bx) (h:ι→List Seg)
    (hs:∀ i,AtD C p df fuel listed (e i) (b i) (h i) S) (hk:(∀ i,AtD C p df fuel listed (e i) (b i) (h i) S)→AtD C p df fuel0 listed0 env0 bx0 hp0 S):AtD C p df fuel0 listed0 env0 bx0 hp0 S:=hk hs
structure LexD (P:Program) (c:Code) (p:List Nat) (k m:Nat) (listed lst:Array Bool):Prop where
  sel:Region.noSelect (opsOf c p)=true
  le:Nat.ble (k+m) (opsOf c p).size=true
  noStore:((opsOf c p).toList.take (k+m)).all (fun o=>!isStore o.op)=true
  mark:markTo m k listed=lst
  chk:chkQ .any (opsOf c p) (k+m) m k listed=true
  rest:(Region.ready .any (opsOf c p) lst).all (fun j=>Nat.ble (k+m) j)=true
theorem AtD.lex {C:Ctx}{p l1:List Nat}{df:List Deferred}{env env1:Env}{bx bx1:Bx}{hp:List Seg}{S:Base}{ds1:List Bool}{hs1':List Hint}{ob1:Prop}{listed lst:Array Bool}(k m g:Nat) (nw:Bool) (ds:List Bool) (hs:List Hint)
    (hok:LexD C.P C.body p k m listed lst) (hl1:List.range' k m=l1)
    (h1:runOps C.P C.nt nw hp S (opsOf C.body p).toList l1 [] ds hs env bx True=⟨[],ds1,hs1',env1,bx1,ob1⟩) (hm1:mild hs=true) (ho1:ob1)
    (h0:g=0→Region.ready .any (opsOf C.body p) lst=[]) (hk:AtD C p df g lst env1 bx hp S):AtD C p df (g+m) listed env bx hp S:=by
  subst hl1
  intro w hw tm hsz hkn
  have hle:k+m≤(opsOf C.body p).size:=Nat.le_of_ble_eq_true hok.le
  have base:∀ tm,tm.size=C.nt→Knows env1 tm→qTo C.P .any (opsOf C.body p) (WOk S bx hp) (Qf C p df) (fun j=>Nat.ble (j+1) (k+m)) g lst ⟨tm,df⟩:=by
    intro tm hsz hkn
    cases g with
    | zero => exact⟨h0 rfl,fun w hw => hk w hw tm hsz hkn⟩
    | succ g =>
      refine⟨fun w hw=>hk w hw tm hsz hkn,fun j hj hq=>?_⟩
      have h3:=Nat.le_of_ble_eq_true (List.all_eq_true.1 hok.rest j hj)
      have h4:=Nat.le_of_ble_eq_true hq
      omega
  have hr:=runOps_qT (df:=df) (Q:=qTo C.P .any (opsOf C.body p) (WOk S bx hp) (Qf C p df) (fun j=>Nat.ble (j+1) (k+m)) g lst) m k [] ds hs env bx True _ hok.noStore hle h1 rfl hm1 ho1 base
  have hq:=hr.2.2 tm hsz hkn
  have htl:(((opsOf C.body p).toList.drop k).take m).length=m:=by simp; omega
  have H:=qTo_lex (P:=C.P) (md:=.any) (Q':=Qf C p df) (W:=WOk S bx hp) (n:=k+m) (g:=g) (lst:=lst) hok.sel (((opsOf C.body p).toList.drop k).take m) k listed ⟨tm,df⟩ (fun j hj=>by
    rw [htl] at hj
    rw [List.getElem?_take_of_lt hj,List.getElem?_drop]; simp) (by rw [htl]; exact hok.mark) (by rw [htl]; exact hok.chk) hq
  rw [htl] at H
  exact qTo_wp H hw
theorem AtD.pureG {C:Ctx}{p:List Nat}{df:List Deferred}{fuel i d:Nat}{listed:Array Bool}{env:Env}{bx:Bx}{hp:List Seg}{S:Base}{o:Oper}{v:Value}{ob o2:Prop}(nw:Bool) (ds:List Bool) (hns:Region.noSelect (opsOf C.body p)=true)
    (hc:chkD (opsOf C.body p) [i] listed=true) (ho:opAt C.body p i=some o) (hdst:o.dst=some d) (hfit:Nat.ble (d+1) C.nt=true) (hg:guardAt C.body p o ds env=some ob) (hob:ob) (hp1:pure1 C.P nw env o.op=some (v,o2)) (h2:o2)
    (hk:AtD C p df fuel (listed.setIfInBounds i true) ((d,v) :: env) bx hp S):AtD C p df (fuel+1) listed env bx hp S:=by
  simp only [chkD,Bool.and_eq_true,Bool.and_true] at hc
  obtain⟨hr,hf⟩:=hc
  intro w hw tm hs hkn
  have hi:(opsOf C.body p)[i]?=some o:=by
    unfold opAt at ho; unfold opsOf
    split at ho
    · rename_i hs'; rw [hs']; rw [nth_eq] at ho; simpa using ho
    · cases ho
  have hwn:Region.wanted o (yielded (opsOf C.body p) tm)=true:=by
    unfold guardAt at hg; unfold opsOf
    split at hg
    · rename_i hs'
      rw [hs']
      split at hg
      · rename_i hgo
        simp only [Option.some.injEq] at hg
        subst hg
        exact guardOf_ok hgo hob hkn
      · cases hg
    · cases hg
  have hfit':fits C.nt o.dst=true:=by rw [hdst]; exact hfit
  have hk':AtD C p df fuel (listed.setIfInBounds i true) (putE o.dst v env) bx hp S:=by rw [hdst]; exact hk
  have hrec:=hk' w hw _ (by rw [size_put]; exact hs) (hkn.putE hs hfit' v)
  have hy:Yields C.P (opsOf C.body p) o v ⟨tm,df⟩:=.inl ⟨hwn,fun w'=>by rw [eval_fev]; exact pure1_ok hp1 h2 hkn.agree⟩
  exact wpAny_take hi hns hf hr (fun c a w hq=>by cases hq.1) hy (by rw [put_act]; exact hrec)
theorem AtD.fork3 {C:Ctx}{p:List Nat}{df:List Deferred}{fuel:Nat}{listed:Array Bool}{env:Env}{bx:Bx}{hp:List Seg}{S:Base}(i j k:Nat) (hr:Region.ready .any (opsOf C.body p) listed=[i,j,k])
    (h1:StepD C p df fuel listed env bx hp S i) (h2:StepD C p df fuel listed env bx hp S j) (h3:StepD C p df fuel listed env bx hp S k):AtD C p df (fuel+1) listed env bx hp S :=
  AtD.fork [i,j,k] hr (by simp) (fun l hl=>by simp at hl; rcases hl with rfl | rfl | rfl <;> assumption)
theorem OpOk.appendS {C:Ctx}{env:Env}{bx:Bx}{hp:List Seg}{S:Base}{o:Oper}{K:Value→Bx→List Seg→Prop}{x y:Operand}{t u e:TypeId}{a:Option Nat}{n cap m c2:Nat}{ad:Option Addr}{xs:List Value}(j sz by_:Nat) (news:List Value)
    (ho:appOf o.op=some (x,y,t,u)) (ht:elT C.P t=some e) (hu:elT C.P u=some e) (hi:infoL C.P e=some (sz,by_,sz)) (hpos:Nat.ble 1 sz=true) (hj:nth hp j=some (Seg.row a e sz n cap xs)) (hx:Env.ev env x=some (sv a n cap))
    (hy:Env.ev env y=some (.slice ad m c2)) (hsl:∀ w,WOk S bx hp w→SlOk w ad news) (hl:news.length=m * sz) (h1:∀ v,v∈news→v.oneCell'=true)
    (h63:n+m≤9223372036854775807) (hb:(n+m) * by_≤140737488355328)
    (hk:∀ a' cap',K (sv a' (n+m) cap') bx (setL hp j (Seg.row a' e sz (n+m) cap' (xs++news)))):OpOk C o env bx hp S K:=by
  by_cases h0:news=[]
  · subst h0
    have hsz:=Nat.le_of_ble_eq_true hpos
    have hm0:m=0:=by
      rcases Nat.mul_eq_zero.1 (show m * sz=0 by simpa using hl.symm) with h | h
      · exact h
      · omega
    subst hm0
    intro w hw ρ hρ
    obtain⟨i,z,hi1,hz,hs1,hs2,hs3⟩:=infoL_ok hi
    have hrow:rowOk w a e sz n cap xs:=hw.hp _ (nth_mem hj)
    obtain⟨a',cap',w',hr,hrow',hext,hkk⟩:=run_append_row (P:=C.P) (w:=w) (ty:=o.type) (u:=u) (x:=.slice ad 0 c2) (m:=0) (news:=[]) (elT_ok ht) hi1 hz hs1 hs3 (.inl (elT_ok hu)) hrow
      (fun w1 hw1 =>⟨rfl,by
        cases ad with
        | none => rfl
        | some ad => exact run_firstCells_some w1 sz 0 ad 0 c2 [] (by simp) (fun j v hv => by simp at hv)⟩) hl h1 h63 (by rw [hs2]; exact hb)
    refine .inl ⟨sv a' (n+0) cap',w',bx,_,.inl ?_,hw.setSeg hj hext hrow' (by cases a' <;> simp [Seg.row]) hkk,hk a' cap'⟩
    rw [appOf_ok ho,hρ _ _ hx,hρ _ _ hy,hr]; rfl
  · exact OpOk.appendSl j sz by_ news ho ht hu hi hj hx hy hsl hl h0 h1 h63 hb hk
theorem putL_gen {α:Type}:∀ (ys l:List α) (i:Nat),i+ys.length≤l.length→putL l i ys=l.take i++ys++l.drop (i+ys.length)
  | [],l,i,_ => by simp [putL]
  | y :: ys,l,i,h => by
    simp only [List.length_cons] at h
    rw [putL,putL_gen ys (setL l i y) (i+1) (by rw [setL_eq,List.length_set]; omega),setL_eq]
    have h1:(l.set i y).take (i+1)=l.take i++[y]:=by
      rw [List.take_add_one,List.take_set_of_le (Nat.le_refl _),List.getElem?_set_self (by omega)]; rfl
    have h2:(l.set i y).drop (i+1+ys.length)=l.drop (i+(y :: ys).length):=by
      rw [List.drop_set_of_lt (by omega)]; congr 1; simp; omega
    rw [h1,h2]; simp
theorem putL_all {α:Type}{l ys:List α}(h:l.length=ys.length):putL l 0 ys=ys:=by
  rw [putL_gen ys l 0 (by omega)]; simp [List.drop_of_length_le (Nat.le_of_eq h)]
theorem u8_lt_iff (a b:UInt8):a < b↔a.toNat < b.toNat:=Iff.rfl
theorem u8_ext {a b:UInt8}(h:a.toNat=b.toNat):a=b:=UInt8.toNat_inj.1 h
theorem less_irrefl:∀ a:List UInt8,Op.bytesLess a a=false
  | [] => rfl
  | x :: a => by
    have h:¬ x < x:=by rw [u8_lt_iff]; omega
    simp [Op.bytesLess,h,less_irrefl a]
theorem less_cons {x y:UInt8}{a b:List UInt8}:Op.bytesLess (x :: a) (y :: b)=true↔x < y∨x=y∧Op.bytesLess a b=true:=by
  simp [Op.bytesLess]
theorem less_trans:∀ {a b c:List UInt8},Op.bytesLess a b=true→Op.bytesLess b c=true→Op.bytesLess a c=true
  | a,b,[],_,h => by cases b <;> simp [Op.bytesLess] at h
  | a,[],c :: cs,h,_ => by cases a <;> simp [Op.bytesLess] at h
  | [],y :: b,z :: c,_,_ => rfl
  | x :: a,y :: b,z :: c,h1,h2 => by
    rw [less_cons] at h1 h2 ⊢
    rcases h1 with h1 | ⟨rfl,h1⟩
    · rcases h2 with h2 | ⟨rfl,h2⟩
      · left; rw [u8_lt_iff] at *; omega
      · exact .inl h1
    · rcases h2 with h2 | ⟨rfl,h2⟩
      · exact .inl h2
      · exact .inr ⟨rfl,less_trans h1 h2⟩
theorem less_tri:∀ (a b:List UInt8),Op.bytesLess a b=true∨a=b∨Op.bytesLess b a=true
  | [],[] => .inr (.inl rfl)
  | [],_ :: _ => .inl rfl
  | _ :: _,[] => .inr (.inr rfl)
  | x :: a,y :: b => by
    rcases Nat.lt_trichotomy x.toNat y.toNat with h | h | h
    · exact .inl (less_cons.2 (.inl h))
    · have:=u8_ext h
      subst this
      rcases less_tri a b with h | h | h
      · exact .inl (less_cons.2 (.inr ⟨rfl,h⟩))
      · exact .inr (.inl (by rw [h]))
      · exact .inr (.inr (less_cons.2 (.inr ⟨rfl,h⟩)))
    · exact .inr (.inr (less_cons.2 (.inl h)))
theorem less_asymm {a b:List UInt8}(h:Op.bytesLess a b=true):Op.bytesLess b a=false:=by
  cases hb:Op.bytesLess b a with
  | false => rfl
  | true => have:=less_trans h hb; rw [less_irrefl] at this; cases this
theorem less_ne {a b:List UInt8}(h:Op.bytesLess a b=true):a≠b:=by
  rintro rfl; rw [less_irrefl] at h; cases h
theorem risN_mono {S:FL}(h:risN S=true):∀ (d i:Nat) (x y:List UInt8 × List UInt8),S[i]?=some x→S[i+1+d]?=some y→Op.bytesLess x.1 y.1=true
  | 0,i,x,y,hx,hy => (risN_iff S).1 h i x y hx hy
  | d+1,i,x,y,hx,hy => by
    obtain⟨z,hz⟩:∃ z,S[i+1]?=some z:=⟨_,List.getElem?_eq_getElem (by have:=(List.getElem?_eq_some_iff.1 hy).1; omega)⟩
    have h1:=(risN_iff S).1 h i x z hx hz
    have h2:=risN_mono h d (i+1) z y hz (by rw [← hy]; congr 1; omega)
    exact less_trans h1 h2
theorem risN_lt {S:FL}(h:risN S=true) {i k:Nat}{x y:List UInt8 × List UInt8}(hik:i < k) (hx:S[i]?=some x) (hy:S[k]?=some y):Op.bytesLess x.1 y.1=true :=
  risN_mono h (k - (i+1)) i x y hx (by rw [show i+1+(k - (i+1))=k by omega]; exact hy)
theorem risN_tail {p:List UInt8 × List UInt8}{S:FL}(h:risN (p :: S)=true):risN S=true:=by
  cases S with
  | nil => rfl
  | cons q S => rw [risN,Bool.and_eq_true] at h; exact h.2
theorem risN_head {p:List UInt8 × List UInt8}{S:FL}(h:risN (p :: S)=true):∀ q,q∈S→Op.bytesLess p.1 q.1=true:=by
  intro q hq
  obtain⟨i,hi⟩:=List.mem_iff_getElem?.1 hq
  exact risN_lt h (i:=0) (k:=i+1) (by omega) rfl (by simpa using hi)
theorem risN_cons {p:List UInt8 × List UInt8}{S:FL}(h:risN S=true) (hp:∀ q,q∈S→Op.bytesLess p.1 q.1=true):risN (p :: S)=true:=by
  cases S with
  | nil => rfl
  | cons q S => rw [risN,Bool.and_eq_true]; exact⟨hp q (by simp),h⟩
theorem risN_nodup:∀ {S:FL},risN S=true→(S.map (·.1)).Nodup
  | [],_ => by simp
  | p :: S,h => by
    rw [List.map_cons,List.nodup_cons]
    refine⟨fun hm=>?_,risN_nodup (risN_tail h)⟩
    obtain⟨q,hq,he⟩:=List.mem_map.1 hm
    exact less_ne (risN_head h q hq) he.symm
def sumB (S:FL):Nat:=(S.map fun p=>p.2.length).sum
theorem sumB_perm {S R:FL}(h:S.Perm R):sumB S=sumB R:=(h.map _).sum_nat
theorem sumB_snoc (S:FL) (p:List UInt8 × List UInt8):sumB (S++[p])=sumB S+p.2.length:=by simp [sumB]
theorem sumB_take {S:FL}{i:Nat}:sumB (S.take i)≤sumB S:=by
  have:S=S.take i++S.drop i:=(List.take_append_drop i S).symm
  conv=>rhs; rw [this]
  simp only [sumB,List.map_append,List.sum_append]; omega
theorem sumB_mem {S:FL}{p:List UInt8 × List UInt8}(h:p∈S):p.2.length≤sumB S:=by
  induction S with
  | nil => cases h
  | cons q S ih =>
    simp only [sumB,List.map_cons,List.sum_cons]
    rcases List.mem_cons.1 h with rfl | h
    · omega
    · have:=ih h; simp only [sumB] at this; omega
def wrB (old:List UInt8) (at0:Nat) (s:List UInt8):List UInt8:=putL (putL (List.replicate (max old.length (at0+s.length)) 0) 0 old) at0 s
theorem wrB_len (old:List UInt8) (at0:Nat) (s:List UInt8):(wrB old at0 s).length=max old.length (at0+s.length):=by
  unfold wrB; rw [putL_len,putL_len,List.length_replicate]
def readN (S:FL) (n:List UInt8):List UInt8:=match S.find? fun p => decide (p.1=n) with
  | some p => p.2
  | none => []
def putN (S:FL) (p:List UInt8 × List UInt8):FL:=match S.findIdx? fun x => decide (x.1=p.1) with
  | some i => S.set i p
  | none => S++[p]
def nbs (F:List FileE):FL:=F.map FileE.nb
theorem readN_nbs (F:List FileE) (n:List UInt8):readN (nbs F) n=bytesF F n:=by
  unfold readN bytesF getF nbs
  rw [List.find?_map]
  show (match (F.find? (fun f=>decide (f.name=n))).map FileE.nb with | some p=>p.2 | none=>[])=_
  cases F.find? (fun f=>decide (f.name=n)) <;> rfl
theorem findIdx_map {α β:Type}(g:α→β) (p:β→Bool):∀ l:List α,(l.map g).findIdx? p=l.findIdx? fun x => p (g x)
  | [] => rfl
  | x :: l => by simp only [List.map_cons,List.findIdx?_cons,findIdx_map g p l]
theorem putN_nbs (F:List FileE) (f:FileE):nbs (putF F f)=putN (nbs F) f.nb:=by
  unfold putF putN nbs
  rw [findIdx_map]
  have e:(fun x:FileE=>decide (x.nb.1=f.nb.1))=fun x:FileE=>decide (x.name=f.name):=rfl
  rw [e]
  cases F.findIdx? (fun x:FileE=>decide (x.name=f.name)) with
  | none => simp
  | some i => simp [List.map_set]
theorem putN_mem {S:FL}{p q:List UInt8 × List UInt8}(h:q∈putN S p):q=p∨q∈S:=by
  unfold putN at h
  split at h
  · rcases List.mem_or_eq_of_mem_set h with h | h
    · exact .inr h
    · exact .inl h
  · simp only [List.mem_append,List.mem_singleton] at h
    exact h.symm
def cutN (S:FL) (n:List UInt8) (at0:Nat) (s:List UInt8) (k:Int):FL:=if 0 < k then putN S (n,wrB (readN S n) at0 (s.take k.toNat)) else S
def crashN:FL→List (List UInt8 × Nat × List UInt8)→(Nat→Int)→Nat→FL
  | S,[],_,_ => S
  | S,(n,at0,s) :: W,K,i => crashN (cutN S n at0 s (min (max (K i) 0) s.length)) W K (i+1)
def FOK (S:FL):Prop:=∀ p,p∈S→0 < p.2.length∧p.2.length≤1048576
theorem readN_mem {S:FL}{n:List UInt8}:readN S n=[]∨(n,readN S n)∈S:=by
  unfold readN
  cases h:S.find? (fun p=>decide (p.1=n)) with
  | none => exact .inl rfl
  | some p =>
    have h1:=List.mem_of_find?_eq_some h
    have h2:p.1=n:=by simpa using List.find?_some h
    right
    rw [← h2]; exact h1
theorem FOK.read {S:FL}(h:FOK S) (n:List UInt8):(readN S n).length≤1048576:=by
  rcases @readN_mem S n with h1 | h1
  · rw [h1]; simp
  · exact (h _ h1).2
theorem FOK.cut {S:FL}(h:FOK S) {n:List UInt8}{at0:Nat}{s:List UInt8}{k:Int}(hk:k≤s.length) (hb:at0+s.length≤1048576):FOK (cutN S n at0 s k):=by
  unfold cutN
  split
  · intro p hp
    rcases putN_mem hp with rfl | hp
    · have h1:=h.read n
      have h2:=wrB_len (readN S n) at0 (s.take k.toNat)
      rw [List.length_take] at h2
      show 0 < (wrB (readN S n) at0 (s.take k.toNat)).length∧(wrB (readN S n) at0 (s.take k.toNat)).length≤1048576
      omega
    · exact h p hp
  · exact h
theorem FOK.perm {S R:FL}(h:FOK S) (hp:R.Perm S):FOK R:=fun p hm=>h p (hp.mem_iff.1 hm)
theorem Tri.mk {P:Program}{f:FuncId}{args:List Value}{w:World}{m:List Nat}{Q:Value→Bx→List Seg→Prop}(h1:Callable P f) (h2:Calls P f ⟨args⟩ w (TriR w m Q)):Tri P f args w m Q:=⟨h1,h2⟩
def IterP {α:Type}(P:Program) (f:FuncId) (ca:List Value) (bi:Bx) (rd:List Nat) (enc:α→List Value) (okp fin:List α→Prop) (w:World):Prop :=
  ∀ (y:Nat) (s0:Seg) (J:List α→Seg→Prop),J [] s0→Own bi [s0] w→(∀ k,k∈rd→k ∉ kys bi [s0]) →
    (∀ pre x s w',okp (pre++[x])→J pre s→Own [] [s] w'→Ext (kys bi [s0]) w w'→YieldOk P y (enc x) w' (RoundR w' (kys [] [s]) fun bx hp=>bx=[]∧∃ s',hp=[s']∧J (pre++[x]) s')) →
    Tri P f (.func (.yield y) #[] #[] :: ca) w (kys bi [s0]) (fun _ bx hp=>bx=bi∧∃ s,hp=[s]∧∃ xs,fin xs∧J xs s)
theorem At.rangeP {α:Type}{C:Ctx}{p l:List Nat}{df:List Deferred}{env:Env}{bi bc:Bx}{hp:List Seg}{S:Base}{g:Operand}{ps:Array Tmp}{assign body:Code}{f:FuncId}{ca:List Value}
    (hr:rangeAt C.body p=some (g,ps,assign,body)) (hrd:C.rd=none) (hg:funcOf env g=some (f,ca)) {rd:List Nat}(hfree:∀ k,k∈rd→k < S.w0.heap.size∧k ∉ S.mods)
    {enc:α→List Value}{okp fin:List α→Prop}(henc:∀ x,(enc x).length=ps.size) (hps:ps.toList.all (fun t=>Nat.ble (t+1) C.nt)=true)
    (Inv:List α→Bx→List Seg→Prop) (h0:Inv [] bc hp) (hiter:∀ w,Ext S.mods S.w0 w→IterP C.P f ca bi rd enc okp fin w)
    (hbody:∀ lp D tm pre x bx hp w',okp (pre++[x])→Inv pre bx hp→Ext S.mods S.w0 w' →
      At (roundCtx C.P lp C.fn assign [.beginRound,.code body] C.nt (RoundR w' (kys bx (loopSeg lp .ready C.fn tm ps assign body D :: hp)) (fun bx' hp' => ∃ hp'',hp'=loopSeg lp .ready C.fn tm ps assign body D :: hp''∧Inv (pre++[x]) bx' hp'')))
        ⟨0,[],[]⟩ [] (zipEnv (ps.toList.zip (enc x)) env) bx (loopSeg lp .ready C.fn tm ps assign body D :: hp) ⟨w',kys bx (loopSeg lp .ready C.fn tm ps assign body D :: hp)⟩)
    (hk:∀ D bx' hp' xs,fin xs→Inv xs bx' hp'→At C ⟨1,p,[]⟩ ({ target:=.collected D,args:=#[] } :: df) env (bi++bx') (hp'++[markSeg D]) S):At C ⟨0,p,l⟩ df env (bi++bc) hp S:=by
  refine At.range hr hrd hg (fun bx' hp'=>∃ bx'',bx'=bi++bx''∧∃ xs,fin xs∧Inv xs bx'' hp') ?_ ?_
  · intro lp D tm w hts hkn hw
    have hkey:kys (bi++bc) (loopSeg lp .ready C.fn tm ps assign body D :: hp)=kys bi [Seg.pack bc (loopSeg lp .ready C.fn tm ps assign body D :: hp)]:=by rw [kys_pack]; simp
    have hsubk:∀ k,k∈kys (bi++bc) (loopSeg lp .ready C.fn tm ps assign body D :: hp)→k∈kys (bi++bc) (loopSeg lp .ready C.fn tm ps assign body D :: markSeg D :: hp):=by
      intro k hm
      simp only [kys,List.flatMap_cons,List.mem_append] at hm ⊢
      rcases hm with hm | hm | hm
      · exact .inl hm
      · exact .inr (.inl hm)
      · exact .inr (.inr (.inr hm))
    have hown:Own (bi++bc) (loopSeg lp .ready C.fn tm ps assign body D :: hp) w:=by
      refine⟨?_,fun k hm=>hw.lt k (hsubk k hm),hw.bx,fun s hs=>hw.hp s (by rcases List.mem_cons.1 hs with rfl | hs; simp; simp [hs])⟩
      refine List.Nodup.sublist ?_ hw.nd
      unfold kys
      refine List.Sublist.append_left ?_ _
      simp only [List.flatMap_cons]
      exact List.Sublist.append_left (List.sublist_append_right _ _) _
    rw [hkey]
    have h:=hiter w hw.ext lp (Seg.pack bc (loopSeg lp .ready C.fn tm ps assign body D :: hp)) (fun pre s => ∃ bx hp,s=Seg.pack bx (loopSeg lp .ready C.fn tm ps assign body D :: hp)∧Inv pre bx hp)
      ⟨bc,hp,rfl,h0⟩ (Own.pack (by simpa using hown)) (fun k hk' hm=>by
        rw [← hkey] at hm
        obtain⟨h1,h2⟩:=hfree k hk'
        rcases hw.own k (hsubk k hm) with h3 | h3
        · exact h2 h3
        · omega) ?_
    · refine⟨h.1,h.2.mono ?_⟩
      rintro e w' ⟨v,bx,hp',he,⟨rfl,s,rfl,xs,hfin,bx2,hp2,rfl,hI⟩,hext,hown',hkk⟩
      refine⟨v,bx++bx2,loopSeg lp .ready C.fn tm ps assign body D :: hp2,he,⟨hp2,rfl,bx2,rfl,xs,hfin,hI⟩,hext,by simpa using hown'.unpack,fun k hm=>hkk k ?_⟩
      rw [kys_pack]; simpa using hm
    · rintro pre x s w' hpre ⟨bx,hp1,rfl,hI⟩ hown' hext
      have ho:=hown'.unpack
      simp only [List.nil_append,List.append_nil] at ho
      have hx:Ext S.mods S.w0 w':=hw.ext.then hext (fun i hi=>by rw [← hkey] at hi; exact hw.own i (hsubk i hi))
      have:=YieldOk.of ho (henc x) hts (fun t ht=>Nat.le_of_ble_eq_true (List.all_eq_true.1 hps t ht)) hkn (hbody lp D tm pre x bx hp1 w' hpre hI hx)
      obtain⟨r,h1,h2,h3⟩:=this
      refine⟨r,h1,h2,fun fr cs=>?_⟩
      obtain⟨w2,⟨bx2,hp2,⟨hp3,rfl,hI2⟩,he2,ho2,hk2⟩,hst⟩:=h3 fr cs
      refine⟨w2,⟨[],[Seg.pack bx2 (loopSeg lp .ready C.fn tm ps assign body D :: hp3)],⟨rfl,_,rfl,bx2,hp3,rfl,hI2⟩,?_,Own.pack (by simpa using ho2),fun k hm=>?_⟩,hst⟩
      · rw [kys_pack]; simpa using he2
      · rw [kys_pack] at hm ⊢; simp only [List.nil_append,List.append_nil] at hm ⊢; exact hk2 k hm
  · rintro D bx' hp' ⟨bx'',rfl,xs,hfin,hI⟩
    exact hk D bx'' hp' xs hfin hI
def goneSeg (l:Nat) (j:Code) (f:FuncId) (tm:Array Value) (ps:Array Tmp) (assign body:Code) (D:Nat):Seg where
  keys:=[l]
  ok w:=w.heap[l]?=some (.loop { state:=.done,pending:=some j,fn:=f,tmps:=tm,params:=ps,assign,body,defers:=D })
  loc w w' h hk:=by rw [h l (by simp)]; exact hk
def roundCtxA (a:Bool) (P:Program) (l:Nat) (f:FuncId) (c:Code) (tl:List Item) (nt:Nat) (R:World→Prop):Ctx where
  P:=P
  fn:=f
  rd:=some l
  body:=c
  tl:=tl
  nt:=nt
  Φ:=fun cs m=>∀ fr cs0,cs=fr :: cs0→∃ w',R w'∧Steps P m (lone (fr.finish (.bool a)) cs0 w')
  back:=fun _ _ _ h hk fr cs0 e=>by
    obtain⟨w',hr,hs⟩:=hk fr cs0 e
    exact⟨w',hr,.head h hs⟩
def YieldA (P:Program) (l:Nat) (args:List Value) (w:World) (a:Bool) (R:World→Prop):Prop :=
  ∃ r,w.heap[l]?=some (.loop r)∧args.length=r.params.size∧∀ fr cs,∃ w',R w' ∧
    Steps P (lone (Frame.round l r.fn ((r.params.zip ⟨args⟩).foldl (fun tmps (t,a)=>tmps.setIfInBounds t a) r.tmps) r.assign r.body .normal) (fr :: cs) w) (lone (fr.finish (.bool a)) cs w')
theorem YieldA.of {a:Bool}{P:Program}{l:Nat}{f:FuncId}{tm:Array Value}{ps:Array Tmp}{assign body:Code}{D nt:Nat}{bx:Bx}{hp:List Seg}{w:World}{args:List Value}{env:Env}{Q:Bx→List Seg→Prop}
    (hown:Own bx (loopSeg l .ready f tm ps assign body D :: hp) w) (hlen:args.length=ps.size) (hn:tm.size=nt) (hb:∀ t,t∈ps.toList→t < nt) (hkn:Knows env tm)
    (hk:At (roundCtxA a P l f assign [.beginRound,.code body] nt (RoundR w (kys bx (loopSeg l .ready f tm ps assign body D :: hp)) Q)) ⟨0,[],[]⟩ [] (zipEnv (ps.toList.zip args) env) bx (loopSeg l .ready f tm ps assign body D :: hp) ⟨w,kys bx (loopSeg l .ready f tm ps assign body D :: hp)⟩) :
    YieldA P l args w a (RoundR w (kys bx (loopSeg l .ready f tm ps assign body D :: hp)) Q):=by
  refine⟨_,hown.hp _ (List.mem_cons_self ..),hlen,fun fr cs=>?_⟩
  obtain⟨hz,hsz⟩:=zipEnv_ok (ps.toList.zip args) env tm hn (fun x hx=>hb _ (List.of_mem_zip hx).1) hkn
  have h:=hk w hown.wok _ hsz hz (fr :: cs) fr cs rfl
  obtain⟨w',hr,hs⟩:=h
  refine⟨w',hr,?_⟩
  have e:(ps.zip ⟨args⟩).foldl (fun tmps (x:Tmp × Value)=>tmps.setIfInBounds x.1 x.2) tm=(ps.toList.zip args).foldl (fun t x=>t.setIfInBounds x.1 x.2) tm:=by
    rw [← Array.foldl_toList]; simp
  simp only [Frame.round]
  rw [show (fun (tmps:Array Value) (x:Tmp × Value)=>match x with | (t,a)=>tmps.setIfInBounds t a)=(fun tmps x=>tmps.setIfInBounds x.1 x.2) from rfl,e]
  simpa [roundCtxA,Ctx.fr,items,sub,kont] using hs
theorem At.beginA {a:Bool}{P:Program}{l:Nat}{f:FuncId}{tm:Array Value}{ps:Array Tmp}{assign body c:Code}{D nt:Nat}{R:World→Prop}{env:Env}{bx:Bx}{hp:List Seg}{S:Base}
    (hk:At (roundCtxA a P l f body [] nt R) ⟨0,[],[]⟩ [] env bx (loopSeg l .busy f tm ps assign body D :: hp) S) :
    At (roundCtxA a P l f c [.beginRound,.code body] nt R) ⟨1,[],[]⟩ [] env bx (loopSeg l .ready f tm ps assign body D :: hp) S:=by
  intro w hw t hs hkn cs
  have hl:w.heap[l]?=some _:=hw.hp _ (List.mem_cons_self ..)
  have hlt:=(Array.getElem?_eq_some_iff.1 hl).1
  have hb:=run_beginRound (P:=P) hl rfl
  refine (roundCtxA a P l f c [.beginRound,.code body] nt R).back _ _ (lone ((roundCtxA a P l f body [] nt R).fr t [] [.code body]) cs _) ?_
    (hk _ (hw.turnSeg (s':=loopSeg l .busy f tm ps assign body D) (w':=w.putObj l (.loop { state:=.busy,pending:=none,fn:=f,tmps:=tm,params:=ps,assign,body,defers:=D })) rfl rfl rfl rfl World.putObj_size (fun k hn=>World.putObj_heap_other (by simpa [loopSeg] using hn)) (World.putObj_heap_same hlt)) t hs hkn cs)
  simp only [items,kont,roundCtxA,Ctx.fr]
  exact step_lone_go (by simp [stepG,stepG.exec,stepG.apply,Sem.runT_eq,hb,Result.andThen,GStep.bare_after,Frame.finish])
theorem At.roundEndA {P:Program}{l:Nat}{f:FuncId}{tm:Array Value}{ps:Array Tmp}{assign body c:Code}{D nt:Nat}{w0:World}{m:List Nat}{Q:Bx→List Seg→Prop}{env:Env}{bx:Bx}{hp:List Seg}
    (hQ:Q bx (loopSeg l .ready f tm ps assign body D :: hp)) :
    At (roundCtxA true P l f c [] nt (RoundR w0 m Q)) ⟨1,[],[]⟩ [] env bx (loopSeg l .busy f tm ps assign body D :: hp) ⟨w0,m⟩:=by
  intro w hw t hs hkn cs fr cs0 e
  subst e
  have hl:w.heap[l]?=some _:=hw.hp _ (List.mem_cons_self ..)
  have hlt:=(Array.getElem?_eq_some_iff.1 hl).1
  have hb:=run_endRound (P:=P) none hl
  have hw':=hw.turnSeg (s':=loopSeg l .ready f tm ps assign body D) (w':=w.putObj l (.loop { state:=.ready,pending:=none,fn:=f,tmps:=tm,params:=ps,assign,body,defers:=D })) rfl rfl rfl rfl World.putObj_size
    (fun k hn=>World.putObj_heap_other (by simpa [loopSeg] using hn)) (World.putObj_heap_same hlt)
  refine⟨_,⟨bx,_,hQ,hw'.ext,hw'.toOwn,hw'.own⟩,.one ?_⟩
  simp only [items,kont,roundCtxA,Ctx.fr]
  exact step_lone_go (by simp [stepG,stepG.exec,Sem.runT_eq,hb,GStep.bare_after,doReturn])
theorem At.yieldA {a:Bool}{C:Ctx}{p l:List Nat}{i d:Nat}{df:List Deferred}{env:Env}{bx:Bx}{hp:List Seg}{S:Base}{o:Oper}{ob:Prop}(ds:List Bool) (ho:opAt C.body p i=some o) (hdst:o.dst=some d) (hfit:Nat.ble (d+1) C.nt=true) (hd:notDefer o.op=true)
    (hg:guardAt C.body p o ds env=some ob) (hob:ob) {lp:Nat}{args:List Value}(hy:yieldOf env o.op=some (lp,args)) (mb mh:List Bool) {bm br:Bx}{hm hr:List Seg}{Q:Bx→List Seg→Prop}
    (hsel:forceL (selL mb bx) (fun a=>forceL (selL mh hp) fun b=>forceL (remL mb bx) fun c=>forceL (remL mh hp) fun d=>(a,b,c,d))=(bm,hm,br,hr))
    (hc:∀ w,WOk S bx hp w→YieldA C.P lp args w a (RoundR w (kys bm hm) Q)) (hk:∀ bx' hp',Q bx' hp'→At C ⟨3,p,l⟩ df ((d,.bool a) :: env) (bx'++br) (hp'++hr) S):At C ⟨3,p,i :: l⟩ df env bx hp S:=by
  simp only [forceL_eq,Prod.mk.injEq] at hsel
  obtain⟨rfl,rfl,rfl,rfl⟩:=hsel
  intro w hw tm hs hkn cs
  unfold opAt at ho
  unfold guardAt at hg
  split at ho
  · rename_i id ops d' hsub
    rw [hsub] at hg
    simp only at hg
    split at hg
    · rename_i dec' ds' ob' hgo
      simp only [Option.some.injEq] at hg
      subst hg
      have hi:ops[i]?=some o:=by rw [nth_eq] at ho; simpa using ho
      have hit:∀ l,items C.body C.tl ⟨3,p,l⟩=.inRegion ops l :: kont C.body C.tl p:=fun l=>by simp [items,hsub]
      obtain⟨r,hr1,hr2,hr3⟩:=hc w hw
      have hex:=yieldOf_ok (P:=C.P) hy hkn.agree (w:=w)
      rw [run_yield hr1 (by simpa using hr2)] at hex
      rw [hit]
      obtain⟨w',⟨bx',hp',hQ,hext,hown,hkk⟩,hst⟩:=hr3 (C.fr tm df (.inRegion ops (i :: l) :: kont C.body C.tl p)) cs
      have h1:=s_round (cs:=cs) hi (guardOf_ok hgo hob hkn) (notDefer_ok hd) hex (k:=kont C.body C.tl p) (l:=l) (df:=df)
      have hfin:(C.fr tm df (.inRegion ops (i :: l) :: kont C.body C.tl p)).finish (.bool a)=C.fr (putT (some d) (.bool a) tm) df (.inRegion ops l :: kont C.body C.tl p):=by
        simp only [Frame.finish,Ctx.fr,hi,Option.bind_some,hdst,putT]
      rw [hfin] at hst
      refine C.backs (.head h1 hst) ?_
      have hw':=hw.join (selL_perm mb bx) (selL_perm mh hp) hext hown hkk
      have:=hk bx' hp' hQ w' hw' (putT (some d) (.bool a) tm) (by rw [size_put]; exact hs) (hkn.putE (dst:=some d) hs hfit (.bool a)) cs
      rw [hit] at this
      exact this
    · cases hg
  · cases ho
def endSeg (stop:Bool) (l:Nat) (f:FuncId) (tm:Array Value) (ps:Array Tmp) (assign body:Code) (D:Nat):Seg:=bif stop then goneSeg l .ret f tm ps assign body D else loopSeg l .ready f tm ps assign body D
theorem At.rangeA {C:Ctx}{p l:List Nat}{df:List Deferred}{env:Env}{bx:Bx}{hp:List Seg}{S:Base}{g:Operand}{ps:Array Tmp}{assign body:Code}{f:FuncId}{ca:List Value}(stop:Bool)
    (hr:rangeAt C.body p=some (g,ps,assign,body)) (hrd:C.rd=none) (hg:funcOf env g=some (f,ca)) (Q:Bx→List Seg→Prop)
    (hiter:∀ lp D tm w,tm.size=C.nt→Knows env tm→WOk S bx (loopSeg lp .ready C.fn tm ps assign body D :: markSeg D :: hp) w →
      Tri C.P f (.func (.yield lp) #[] #[] :: ca) w (kys bx (loopSeg lp .ready C.fn tm ps assign body D :: hp)) (fun _ bx' hp'=>∃ hp'',hp'=endSeg stop lp C.fn tm ps assign body D :: hp''∧Q bx' hp''))
    (hk:stop=false→∀ D bx' hp',Q bx' hp'→At C ⟨1,p,[]⟩ ({ target:=.collected D,args:=#[] } :: df) env bx' (hp'++[markSeg D]) S)
    (hk2:stop=true→∀ D bx' hp',Q bx' hp'→∀ w,WOk S bx' (hp'++[markSeg D]) w→St C (.code .ret :: kont C.body C.tl p) ({ target:=.collected D,args:=#[] } :: df) env w):At C ⟨0,p,l⟩ df env bx hp S:=by
  intro w hw tm hs hkn cs
  have hsub:sub C.body p=.rangeFunc g ps assign body:=by
    unfold rangeAt at hr
    split at hr
    · rename_i hsub; cases hr; exact hsub
    · cases hr
  have hgv:fev tm g=.func (.func f) #[] ⟨ca⟩:=by
    unfold funcOf at hg
    split at hg
    · rename_i hv
      split at hg
      · split at hg
        · cases hg; exact hkn.ev hv
        · cases hg
      · cases hg
    · cases hg
  have hw1:=hw.laidSeg (.deferred (some [])) (markSeg w.heap.size) rfl (World.alloc_heap_new w _)
  have hw2:=hw1.laidSeg (.loop { state:=.ready,pending:=none,fn:=C.fn,tmps:=tm,params:=ps,assign,body,defers:=w.heap.size }) (loopSeg (w.heap.size+1) .ready C.fn tm ps assign body w.heap.size) (by simp [loopSeg])
    (by have:=World.alloc_heap_new (w.alloc (.deferred (some []))) (.loop { state:=.ready,pending:=none,fn:=C.fn,tmps:=tm,params:=ps,assign,body,defers:=w.heap.size })
        simpa [loopSeg] using this)
  obtain⟨hcb,hcl⟩:=hiter _ _ tm _ hs hkn hw2
  have h1:=s_range (C:=C) (tm:=tm) (df:=df) (k:=kont C.body C.tl p) (cs:=cs) (w:=w) (g:=g) (ps:=ps) (assign:=assign) (body:=body) hrd hgv hcb
  obtain⟨e,w3,fr,⟨v,bx',hp',rfl,⟨hp'',rfl,hQ⟩,hext,hown,hkk⟩,hsteps,-,hleave⟩:=hcl (C.fr tm ({ target:=.collected w.heap.size,args:=#[] } :: df) (.inRangeFunc (w.heap.size+1) :: kont C.body C.tl p) :: cs)
  have h2:=step_leave_returned (c:=C.fr tm ({ target:=.collected w.heap.size,args:=#[] } :: df) (.inRangeFunc (w.heap.size+1) :: kont C.body C.tl p)) (cs:=cs) hleave
  have hw3:=hw2.join (bm:=bx) (br:=[]) (hm:=loopSeg (w.heap.size+1) .ready C.fn tm ps assign body w.heap.size :: hp) (hr:=[markSeg w.heap.size]) (by simp) (by
    refine (List.Perm.cons _ ?_)
    exact (List.perm_append_singleton (markSeg w.heap.size) hp).symm) hext hown hkk
  simp only [List.append_nil,List.cons_append] at hw3
  have hdrop:∀ {s:Seg}{w':World},s.keys=[w.heap.size+1]→WOk S bx' (s :: (hp''++[markSeg w.heap.size])) w'→WOk S bx' (hp''++[markSeg w.heap.size]) w':=by
    intro s w' hsk hw4
    have hsubk:∀ k,k∈kys bx' (hp''++[markSeg w.heap.size])→k∈kys bx' (s :: (hp''++[markSeg w.heap.size])):=by
      intro k hm
      simp only [kys,List.flatMap_cons,List.mem_append] at hm ⊢
      rcases hm with hm | hm
      · exact .inl hm
      · exact .inr (.inr hm)
    refine⟨hw4.ext,?_,fun k hm=>hw4.lt k (hsubk k hm),fun k hm=>hw4.own k (hsubk k hm),hw4.bx,fun s hm=>hw4.hp s (List.mem_cons_of_mem _ hm)⟩
    refine List.Nodup.sublist ?_ hw4.nd
    unfold kys
    refine List.Sublist.append_left ?_ _
    simp only [List.flatMap_cons]
    exact List.sublist_append_right _ _
  cases stop with
  | false =>
    have hl:w3.heap[w.heap.size+1]?=some (.loop { state:=.ready,pending:=none,fn:=C.fn,tmps:=tm,params:=ps,assign,body,defers:=w.heap.size }):=hw3.hp _ (List.mem_cons_self ..)
    have hlt:=(Array.getElem?_eq_some_iff.1 hl).1
    have hend:=run_endLoop (P:=C.P) hl (by simp)
    have h3:Go.step C.P (lone (C.fr tm ({ target:=.collected w.heap.size,args:=#[] } :: df) (.endRangeFunc (w.heap.size+1) :: kont C.body C.tl p)) cs w3)=.next (lone (C.fr tm ({ target:=.collected w.heap.size,args:=#[] } :: df) (kont C.body C.tl p)) cs (w3.putObj (w.heap.size+1) (.loop { state:=.exhausted,pending:=none,fn:=C.fn,tmps:=tm,params:=ps,assign,body,defers:=w.heap.size }))) :=
      step_lone_go (by simp [stepG,stepG.exec,Ctx.fr,Sem.runT_eq,hend,GStep.bare_after])
    have hw4:=hw3.turnSeg (s':=loopSeg (w.heap.size+1) .exhausted C.fn tm ps assign body w.heap.size) (w':=w3.putObj (w.heap.size+1) (.loop { state:=.exhausted,pending:=none,fn:=C.fn,tmps:=tm,params:=ps,assign,body,defers:=w.heap.size })) rfl rfl rfl rfl World.putObj_size
      (fun k hn=>World.putObj_heap_other (by simpa [endSeg,loopSeg] using hn)) (World.putObj_heap_same hlt)
    have:=hk rfl w.heap.size bx' hp'' hQ _ (hdrop rfl hw4) tm hs hkn cs
    simp only [items,hsub] at this ⊢
    exact C.backs (.head h1 (Steps.trans hsteps (.head h2 (.one h3)))) this
  | true =>
    have hl:w3.heap[w.heap.size+1]?=some (.loop { state:=.done,pending:=some .ret,fn:=C.fn,tmps:=tm,params:=ps,assign,body,defers:=w.heap.size }):=hw3.hp _ (List.mem_cons_self ..)
    have hlt:=(Array.getElem?_eq_some_iff.1 hl).1
    have hend:=run_endLoop (P:=C.P) hl (by simp)
    have h3:Go.step C.P (lone (C.fr tm ({ target:=.collected w.heap.size,args:=#[] } :: df) (.endRangeFunc (w.heap.size+1) :: kont C.body C.tl p)) cs w3)=.next (lone (C.fr tm ({ target:=.collected w.heap.size,args:=#[] } :: df) (.code .ret :: kont C.body C.tl p)) cs (w3.putObj (w.heap.size+1) (.loop { state:=.exhausted,pending:=some .ret,fn:=C.fn,tmps:=tm,params:=ps,assign,body,defers:=w.heap.size }))) :=
      step_lone_go (by simp [stepG,stepG.exec,Ctx.fr,Sem.runT_eq,hend,GStep.bare_after])
    have hw4:=hw3.turnSeg (s':=⟨[w.heap.size+1],fun _ => True,fun _ _ _ h => h⟩) (w':=w3.putObj (w.heap.size+1) (.loop { state:=.exhausted,pending:=some .ret,fn:=C.fn,tmps:=tm,params:=ps,assign,body,defers:=w.heap.size })) rfl rfl rfl rfl World.putObj_size
      (fun k hn=>World.putObj_heap_other (by simpa [endSeg,goneSeg] using hn)) trivial
    have:=hk2 rfl w.heap.size bx' hp'' hQ _ (hdrop rfl hw4) tm hs hkn cs
    simp only [items,hsub]
    exact C.backs (.head h1 (Steps.trans hsteps (.head h2 (.one h3)))) this
def IterA {α:Type}(P:Program) (f:FuncId) (ca:List Value) (bi:Bx) (bo:Bx→Prop) (rd:List Nat) (enc:α→List Value) (ys:List α) (stop:Bool) (w:World):Prop :=
  ∀ (y:Nat) (s0:Seg) (J:List α→Seg→Prop),J [] s0→Own bi [s0] w→(∀ k,k∈rd→k ∉ kys bi [s0]) →
    (∀ pre x s w',pre++[x] <+: ys→J pre s→Own [] [s] w'→Ext (kys bi [s0]) w w'→YieldA P y (enc x) w' (!(stop && Nat.beq (pre.length+1) ys.length)) (RoundR w' (kys [] [s]) fun bx hp=>bx=[]∧∃ s',hp=[s']∧J (pre++[x]) s')) →
    Tri P f (.func (.yield y) #[] #[] :: ca) w (kys bi [s0]) (fun _ bx hp=>bo bx∧∃ s,hp=[s]∧J ys s)
theorem At.rangeIA {α:Type}{C:Ctx}{p l:List Nat}{df:List Deferred}{env:Env}{bi bc:Bx}{bo:Bx→Prop}{hp:List Seg}{S:Base}{g:Operand}{ps:Array Tmp}{assign body:Code}{f:FuncId}{ca:List Value}{stop:Bool}
    (hr:rangeAt C.body p=some (g,ps,assign,body)) (hrd:C.rd=none) (hg:funcOf env g=some (f,ca)) {rd:List Nat}(hfree:∀ k,k∈rd→k < S.w0.heap.size∧k ∉ S.mods)
    {enc:α→List Value}{ys:List α}(henc:∀ x,(enc x).length=ps.size) (hps:ps.toList.all (fun t=>Nat.ble (t+1) C.nt)=true)
    (Inv:List α→Bx→List Seg→Prop) (h0:Inv [] bc hp) (hst:stop=true→ys≠[]) (hiter:∀ w,Ext S.mods S.w0 w→IterA C.P f ca bi bo rd enc ys stop w)
    (hbody:∀ lp D tm pre x bx hp w' a,pre++[x] <+: ys→Inv pre bx hp→Ext S.mods S.w0 w'→(∀ k,k∈kys bx (loopSeg lp .ready C.fn tm ps assign body D :: hp)→k∈S.mods∨S.w0.heap.size≤k)→a=(stop && Nat.beq (pre.length+1) ys.length) →
      At (roundCtxA (!a) C.P lp C.fn assign [.beginRound,.code body] C.nt (RoundR w' (kys bx (loopSeg lp .ready C.fn tm ps assign body D :: hp)) (fun bx' hp' => ∃ hp'',hp'=endSeg a lp C.fn tm ps assign body D :: hp''∧Inv (pre++[x]) bx' hp'')))
        ⟨0,[],[]⟩ [] (zipEnv (ps.toList.zip (enc x)) env) bx (loopSeg lp .ready C.fn tm ps assign body D :: hp) ⟨w',kys bx (loopSeg lp .ready C.fn tm ps assign body D :: hp)⟩)
    (hk:stop=false→∀ D bo' bx' hp',bo bo'→Inv ys bx' hp'→At C ⟨1,p,[]⟩ ({ target:=.collected D,args:=#[] } :: df) env (bo'++bx') (hp'++[markSeg D]) S)
    (hk2:stop=true→∀ D bo' bx' hp',bo bo'→Inv ys bx' hp'→∀ w,WOk S (bo'++bx') (hp'++[markSeg D]) w→St C (.code .ret :: kont C.body C.tl p) ({ target:=.collected D,args:=#[] } :: df) env w):At C ⟨0,p,l⟩ df env (bi++bc) hp S:=by
  refine At.rangeA stop hr hrd hg (fun bx' hp'=>∃ bo' bx'',bx'=bo'++bx''∧bo bo'∧Inv ys bx'' hp') ?_ ?_ ?_
  · intro lp D tm w hts hkn hw
    have hkey:kys (bi++bc) (loopSeg lp .ready C.fn tm ps assign body D :: hp)=kys bi [Seg.pack bc (loopSeg lp .ready C.fn tm ps assign body D :: hp)]:=by rw [kys_pack]; simp
    have hsubk:∀ k,k∈kys (bi++bc) (loopSeg lp .ready C.fn tm ps assign body D :: hp)→k∈kys (bi++bc) (loopSeg lp .ready C.fn tm ps assign body D :: markSeg D :: hp):=by
      intro k hm
      simp only [kys,List.flatMap_cons,List.mem_append] at hm ⊢
      rcases hm with hm | hm | hm
      · exact .inl hm
      · exact .inr (.inl hm)
      · exact .inr (.inr (.inr hm))
    have hown:Own (bi++bc) (loopSeg lp .ready C.fn tm ps assign body D :: hp) w:=by
      refine⟨?_,fun k hm=>hw.lt k (hsubk k hm),hw.bx,fun s hs=>hw.hp s (by rcases List.mem_cons.1 hs with rfl | hs; simp; simp [hs])⟩
      refine List.Nodup.sublist ?_ hw.nd
      unfold kys
      refine List.Sublist.append_left ?_ _
      simp only [List.flatMap_cons]
      exact List.Sublist.append_left (List.sublist_append_right _ _) _
    rw [hkey]
    have h:=hiter w hw.ext lp (Seg.pack bc (loopSeg lp .ready C.fn tm ps assign body D :: hp)) (fun pre s => ∃ bx hp,s=Seg.pack bx (endSeg (stop && Nat.beq pre.length ys.length) lp C.fn tm ps assign body D :: hp)∧Inv pre bx hp∧∀ k,k∈kys bx (loopSeg lp .ready C.fn tm ps assign body D :: hp)→k∈S.mods∨S.w0.heap.size≤k)
      ⟨bc,hp,by
        cases stop with
        | false => rfl
        | true =>
          have:=List.length_pos_iff.2 (hst rfl)
          rw [show Nat.beq ([]:List α).length ys.length=false by cases h:ys.length with | zero=>omega | succ n=>rfl]; rfl,h0,fun k hm=>hw.own k (hsubk k (by
          simp only [kys,List.map_append,List.mem_append] at hm ⊢
          rcases hm with hm | hm
          · exact .inl (.inr hm)
          · exact .inr hm))⟩ (Own.pack (by simpa using hown)) (fun k hk' hm=>by
        rw [← hkey] at hm
        obtain⟨h1,h2⟩:=hfree k hk'
        rcases hw.own k (hsubk k hm) with h3 | h3
        · exact h2 h3
        · omega) ?_
    · refine⟨h.1,h.2.mono ?_⟩
      rintro e w' ⟨v,bx,hp',he,⟨hbo,s,rfl,bx2,hp2,rfl,hI,-⟩,hext,hown',hkk⟩
      rw [Nat.beq_refl,Bool.and_true] at hown' hkk
      refine⟨v,bx++bx2,endSeg stop lp C.fn tm ps assign body D :: hp2,he,⟨hp2,rfl,bx,bx2,rfl,hbo,hI⟩,hext,by simpa using hown'.unpack,fun k hm=>hkk k ?_⟩
      rw [kys_pack]; simpa using hm
    · rintro pre x s w' hpre ⟨bx,hp1,rfl,hI,hky⟩ hown' hext
      have hlen:pre.length+1≤ys.length:=by have:=hpre.length_le; simpa using this
      have hne:Nat.beq pre.length ys.length=false:=by
        cases h:Nat.beq pre.length ys.length with
        | false => rfl
        | true => have:=Nat.eq_of_beq_eq_true h; omega
      rw [hne,Bool.and_false] at hown' ⊢
      have ho:=hown'.unpack
      simp only [List.nil_append,List.append_nil,endSeg,cond_false] at ho
      have hx:Ext S.mods S.w0 w':=hw.ext.then hext (fun i hi=>by rw [← hkey] at hi; exact hw.own i (hsubk i hi))
      have:=YieldA.of ho (henc x) hts (fun t ht=>Nat.le_of_ble_eq_true (List.all_eq_true.1 hps t ht)) hkn (hbody lp D tm pre x bx hp1 w' _ hpre hI hx hky rfl)
      obtain⟨r,h1,h2,h3⟩:=this
      refine⟨r,h1,h2,fun fr cs=>?_⟩
      obtain⟨w2,⟨bx2,hp2,⟨hp3,rfl,hI2⟩,he2,ho2,hk2⟩,hst⟩:=h3 fr cs
      refine⟨w2,⟨[],[Seg.pack bx2 (endSeg (stop && Nat.beq (pre.length+1) ys.length) lp C.fn tm ps assign body D :: hp3)],⟨rfl,_,rfl,bx2,hp3,by rw [List.length_append,List.length_singleton],hI2,fun k hm=>by
        have hm2:k∈kys bx2 (endSeg (stop && Nat.beq (pre.length+1) ys.length) lp C.fn tm ps assign body D :: hp3):=by
          simp only [kys,List.flatMap_cons,List.mem_append] at hm ⊢
          rcases hm with hm | hm | hm
          · exact .inl hm
          · refine .inr (.inl ?_)
            unfold endSeg
            cases (stop && Nat.beq (pre.length+1) ys.length) <;> exact hm
          · exact .inr (.inr hm)
        rcases hk2 k hm2 with h | h
        · exact hky k h
        · exact .inr (Nat.le_trans hx.size h)⟩,?_,Own.pack (by simpa using ho2),fun k hm=>?_⟩,hst⟩
      · rw [kys_pack]; simpa [endSeg] using he2
      · rw [kys_pack] at hm ⊢; simp only [List.nil_append,List.append_nil,endSeg,cond_false] at hm ⊢; exact hk2 k hm
  · rintro hs D bx' hp' ⟨bo',bx'',rfl,hb,hI⟩
    exact hk hs D bo' bx'' hp' hb hI
  · rintro hs D bx' hp' ⟨bo',bx'',rfl,hb,hI⟩
    exact hk2 hs D bo' bx'' hp' hb hI
theorem St.retC {P:Program}{f:FuncId}{fn:Func}{w0:World}{m:List Nat}{Q:Value→Bx→List Seg→Prop}{k:List Item}{env:Env}{bx bx':Bx}{hp hp':List Seg}{D:Nat}(mb mh:List Bool) (hs:List Hint)
    (hf:P.funcs[f]?=some fn) {vs:List Value}{ob:Prop}(h:resL P hp ⟨w0,m⟩ env bx fn.results.toList hs=some (vs,ob)) (ho:ob) (hsel:forceL (selL mb bx) (fun a=>forceL (selL mh hp) fun b=>(a,b))=(bx',hp')) (hQ:Q (tupV vs) bx' hp') :
    ∀ w,WOk ⟨w0,m⟩ bx (hp++[markSeg D]) w→St (triCtx P f fn w0 m Q) (.code .ret :: k) [{ target:=.collected D,args:=#[] }] env w:=by
  intro w hw tm hsz hk cs
  have hD:w.heap[D]?=some (.deferred (some [])):=hw.hp (markSeg D) (by simp)
  have hlt:=(Array.getElem?_eq_some_iff.1 hD).1
  have htake:=run_takeDeferred (P:=P) hD
  have hperm:(kys bx (hp++[markSeg D])).Perm (D :: kys bx hp):=by
    unfold kys
    simp only [List.flatMap_append,List.flatMap_cons,List.flatMap_nil,List.append_nil,markSeg]
    rw [← List.append_assoc]
    exact List.perm_append_singleton _ _
  have hnd:=List.nodup_cons.1 (hperm.nodup_iff.1 hw.nd)
  have hw':WOk ⟨w0,m⟩ bx hp (w.putObj D (.deferred none)):=by
    have hex:Ext [D] w (w.putObj D (.deferred none)):=⟨rfl,rfl,rfl,(by first | exact Nat.le_refl _ | exact Nat.le_succ _ | exact Nat.le_add_right _ _),by simp,fun k _ hn=>World.putObj_heap_other (by simpa using hn)⟩
    have hin:∀ k,k∈kys bx hp→k∈kys bx (hp++[markSeg D]):=fun k hm=>hperm.mem_iff.2 (List.mem_cons_of_mem _ hm)
    have hne:∀ k,k∈kys bx hp→(w.putObj D (.deferred none)).heap[k]?=w.heap[k]?:=fun k hm=>World.putObj_heap_other (fun e=>hnd.1 (e ▸ hm))
    refine⟨hw.ext.then hex (fun i hi=>by simp only [List.mem_singleton] at hi; subst hi; exact hw.own _ (hperm.mem_iff.2 (List.mem_cons_self ..))),hnd.2,fun k hm=>by rw [World.putObj_size]; exact hw.lt k (hin k hm),fun k hm=>hw.own k (hin k hm),fun e he=>?_,fun s hs=>?_⟩
    · rw [hne _ (mem_kys_bx he)]; exact hw.bx e he
    · exact s.loc w _ (fun k hm=>hne k (mem_kys_hp hs hm)) (hw.hp s (by simp [hs]))
  have hres:=run_results (P:=P) (resL_ok hw' hk _ _ _ _ h ho)
  have hsub:∀ k,k∈kys bx' hp'→k∈kys bx hp:=by
    simp only [forceL_eq,Prod.mk.injEq] at hsel
    obtain⟨rfl,rfl⟩:=hsel
    intro k hk'
    exact (kys_perm (selL_perm mb bx) (selL_perm mh hp)).mem_iff.2 (List.mem_append_left _ hk')
  have hR:TriR w0 m Q (.returned (tupV vs)) (w.putObj D (.deferred none)):=⟨_,bx',hp',rfl,hQ,hw'.ext,hw'.toOwn.sel mb mh hsel,fun k hk'=>hw'.own k (hsub k hk')⟩
  have hst:Go.step P (lone ((triCtx P f fn w0 m Q).fr tm [{ target:=.collected D,args:=#[] }] (.code .ret :: k)) cs w)=.next (lone { (triCtx P f fn w0 m Q).fr tm [{ target:=.collected D,args:=#[] }] (.code .ret :: k) with mode:=.returning } cs w) :=
    step_lone_go (by simp [stepG,stepG.exec,Ctx.fr,triCtx,fnCtx])
  have hst2:=step_collected (P:=P) (cs:=cs) (fr:={ (triCtx P f fn w0 m Q).fr tm [{ target:=.collected D,args:=#[] }] (.code .ret :: k) with mode:=.returning }) (by simp) rfl rfl htake
  refine (triCtx P f fn w0 m Q).back _ _ _ hst ?_
  refine (triCtx P f fn w0 m Q).back _ _ _ hst2 ?_
  exact⟨_,_,_,hR,Steps.refl _ _,rfl,rfl,rfl,rfl,fn,hf,hres⟩
theorem At.retCK {P:Program}{f:FuncId}{fn:Func}{w0:World}{m:List Nat}{Q:Value→Bx→List Seg→Prop}{p l:List Nat}{env:Env}{bx bx':Bx}{hp hp':List Seg}{D:Nat}(mb mh:List Bool) (hs:List Hint)
    (hf:P.funcs[f]?=some fn) {vs:List Value}{ob:Prop}(h:resL P hp ⟨w0,m⟩ env bx fn.results.toList hs=some (vs,ob)) (ho:ob) (hsel:forceL (selL mb bx) (fun a=>forceL (selL mh hp) fun b=>(a,b))=(bx',hp')) (hQ:Q (tupV vs) bx' hp')
    (hret:isRet (sub (fn.body.getD .skip) p)=true:=by rfl):At (triCtx P f fn w0 m Q) ⟨0,p,l⟩ [{ target:=.collected D,args:=#[] }] env bx (hp++[markSeg D]) ⟨w0,m⟩:=by
  intro w hw
  have hsub:sub (fn.body.getD .skip) p=.ret:=by
    simp only [isRet] at hret
    split at hret
    · assumption
    · cases hret
  have:=St.retC (k:=kont (fn.body.getD .skip) [] p) mb mh hs hf h ho hsel hQ w hw
  simpa [items,triCtx,fnCtx,hsub] using this
theorem less_iff:∀ a b:List UInt8,Op.bytesLess a b=true↔a < b
  | a,[] => by
    constructor
    · intro h; cases a <;> simp [Op.bytesLess] at h
    · intro h; exact absurd h (List.not_lt_nil a)
  | [],b :: l => by simp [Op.bytesLess]
  | x :: a,y :: b => by rw [less_cons,List.cons_lt_cons_iff,less_iff a b]
def leN (x y:List UInt8):Bool:=decide (x≤y)
theorem leN_iff {a b:List UInt8}:leN a b=true↔Op.bytesLess b a=false:=by
  unfold leN
  rw [decide_eq_true_iff,← List.not_lt,← less_iff]
  simp
def sortN (ns:List (List UInt8)):List (List UInt8):=ns.mergeSort leN
theorem sortN_perm (ns:List (List UInt8)):(sortN ns).Perm ns:=List.mergeSort_perm ns leN
theorem sortN_pair (ns:List (List UInt8)):(sortN ns).Pairwise fun a b=>leN a b=true:=by
  refine List.pairwise_mergeSort (fun a b c h1 h2=>?_) (fun a b=>?_) ns
  · rw [leN_iff] at *
    rcases less_tri c a with h | h | h
    · rcases less_tri b c with h3 | h3 | h3
      · rw [less_trans h3 h] at h1; cases h1
      · subst h3; rw [h] at h1; cases h1
      · rw [h3] at h2; cases h2
    · subst h; exact less_irrefl c
    · exact less_asymm h
  · rw [Bool.or_eq_true,leN_iff,leN_iff]
    rcases less_tri a b with h | h | h
    · exact .inl (less_asymm h)
    · subst h; exact .inl (less_irrefl a)
    · exact .inr (less_asymm h)
def pickN (S:FL) (ns:List (List UInt8)):FL:=ns.map fun n=>(n,readN S n)
theorem readN_at {S:FL}(hn:(S.map (·.1)).Nodup) {p:List UInt8 × List UInt8}(hp:p∈S):readN S p.1=p.2:=by
  unfold readN
  cases h:S.find? (fun x=>decide (x.1=p.1)) with
  | none =>
    have:=List.find?_eq_none.1 h p hp
    simp at this
  | some q =>
    have h1:=List.mem_of_find?_eq_some h
    have h2:q.1=p.1:=by simpa using List.find?_some h
    obtain⟨i,hi⟩:=List.mem_iff_getElem?.1 h1
    obtain⟨k,hk⟩:=List.mem_iff_getElem?.1 hp
    have a1:(S.map (·.1))[i]?=some p.1:=by rw [List.getElem?_map,hi]; simp [h2]
    have a2:(S.map (·.1))[k]?=some p.1:=by rw [List.getElem?_map,hk]; rfl
    have:=(List.getElem?_inj (List.getElem?_eq_some_iff.1 a1).1 hn).1 (a1.trans a2.symm)
    subst this
    rw [hi] at hk; cases hk; rfl
theorem pickN_all {S:FL}(hn:(S.map (·.1)).Nodup):pickN S (S.map (·.1))=S:=by
  unfold pickN
  rw [List.map_map]
  conv=>rhs; rw [← List.map_id S]
  apply List.map_congr_left
  intro p hp
  show (p.1,readN S p.1)=p
  rw [readN_at hn hp]
def ordN (S:FL):FL:=pickN S (sortN (S.map (·.1)))
theorem ordN_perm {S:FL}(hn:(S.map (·.1)).Nodup):(ordN S).Perm S:=by
  have:=(sortN_perm (S.map (·.1))).map fun n=>(n,readN S n)
  have h2:=pickN_all hn
  unfold pickN at h2
  rw [h2] at this
  exact this
theorem pair_ris:∀ {R:FL},(R.map (·.1)).Nodup→(R.map (·.1)).Pairwise (fun a b => leN a b=true)→risN R=true
  | [],_,_ => rfl
  | p :: R,hn,hp => by
    rw [List.map_cons,List.nodup_cons] at hn
    rw [List.map_cons,List.pairwise_cons] at hp
    refine risN_cons (pair_ris hn.2 hp.2) (fun q hq=>?_)
    have h1:=hp.1 q.1 (List.mem_map_of_mem hq)
    rw [leN_iff] at h1
    rcases less_tri p.1 q.1 with h | h | h
    · exact h
    · exact (hn.1 (by rw [h]; exact List.mem_map_of_mem hq)).elim
    · rw [h] at h1; cases h1
theorem ordN_ris {S:FL}(hn:(S.map (·.1)).Nodup):risN (ordN S)=true:=by
  have e:(ordN S).map (·.1)=sortN (S.map (·.1)):=by
    unfold ordN pickN
    rw [List.map_map]
    conv=>rhs; rw [← List.map_id (sortN (S.map (·.1)))]
    rfl
  refine pair_ris ?_ ?_
  · rw [e]; exact (sortN_perm _).nodup_iff.2 hn
  · rw [e]; exact sortN_pair _
theorem ris_unique {R S:FL}(hR:risN R=true) (hS:risN S=true) (hp:R.Perm S):R=S:=by
  refine hp.eq_of_pairwise (le:=fun p q=>Op.bytesLess p.1 q.1=true) (fun a b _ _ h1 h2=>?_) ?_ ?_
  · rw [less_asymm h1] at h2; cases h2
  · have:∀ {R:FL},risN R=true→R.Pairwise fun p q=>Op.bytesLess p.1 q.1=true:=by
      intro R
      induction R with
      | nil => intro _; exact List.Pairwise.nil
      | cons p R ih => intro h; exact List.pairwise_cons.2 ⟨fun q hq => risN_head h q hq,ih (risN_tail h)⟩
    exact this hR
  · have:∀ {R:FL},risN R=true→R.Pairwise fun p q=>Op.bytesLess p.1 q.1=true:=by
      intro R
      induction R with
      | nil => intro _; exact List.Pairwise.nil
      | cons p R ih => intro h; exact List.pairwise_cons.2 ⟨fun q hq => risN_head h q hq,ih (risN_tail h)⟩
    exact this hS
theorem ordN_of_perm {S R:FL}(hR:risN R=true) (hp:S.Perm R):ordN S=R:=by
  have hn:(S.map (·.1)).Nodup:=(hp.map (·.1)).nodup_iff.2 (risN_nodup hR)
  exact ris_unique (ordN_ris hn) hR ((ordN_perm hn).trans hp)
theorem readN_perm {S R:FL}(hn:(S.map (·.1)).Nodup) (hp:S.Perm R) (n:List UInt8):readN S n=readN R n:=by
  have hn2:(R.map (·.1)).Nodup:=(hp.map (·.1)).nodup_iff.1 hn
  rcases @readN_mem S n with h1 | h1
  · rcases @readN_mem R n with h2 | h2
    · rw [h1,h2]
    · have h3:=readN_at hn (hp.mem_iff.2 h2)
      exact h3
  · have h3:=readN_at hn2 (hp.mem_iff.1 h1)
    exact h3.symm
theorem putN_cons (q:List UInt8 × List UInt8) (S:FL) (p:List UInt8 × List UInt8):putN (q :: S) p=if q.1=p.1 then p :: S else q :: putN S p:=by
  unfold putN
  rw [List.findIdx?_cons]
  by_cases h:q.1=p.1
  · simp [h]
  · simp only [h,decide_false,Bool.false_eq_true,if_false]
    cases S.findIdx? (fun x=>decide (x.1=p.1)) <;> simp
theorem putN_nil (p:List UInt8 × List UInt8):putN [] p=[p]:=rfl
theorem readN_cons (q:List UInt8 × List UInt8) (S:FL) (n:List UInt8):readN (q :: S) n=if q.1=n then q.2 else readN S n:=by
  unfold readN
  rw [List.find?_cons]
  by_cases h:q.1=n <;> simp [h]
theorem readN_putN:∀ (S:FL) (p:List UInt8 × List UInt8) (n:List UInt8),readN (putN S p) n=if p.1=n then p.2 else readN S n
  | [],p,n => by rw [putN_nil,readN_cons]
  | q :: S,p,n => by
    rw [putN_cons]
    by_cases h:q.1=p.1
    · rw [if_pos h,readN_cons,readN_cons]
      by_cases h2:p.1=n
      · rw [if_pos h2,if_pos h2]
      · rw [if_neg h2,if_neg h2,if_neg (by rw [h]; exact h2)]
    · rw [if_neg h,readN_cons,readN_cons,readN_putN S p n]
      by_cases h2:q.1=n
      · rw [if_pos h2,if_pos h2,if_neg (by intro e; exact h (by rw [h2,e]))]
      · rw [if_neg h2,if_neg h2]
theorem sumB_cons (p:List UInt8 × List UInt8) (S:FL):sumB (p :: S)=p.2.length+sumB S:=by simp [sumB]
theorem sumB_putN:∀ (S:FL) (p:List UInt8 × List UInt8),sumB (putN S p)+(readN S p.1).length=sumB S+p.2.length
  | [],p => by simp [putN_nil,sumB,readN]
  | q :: S,p => by
    rw [putN_cons,readN_cons]
    by_cases h:q.1=p.1
    · rw [if_pos h,if_pos h,sumB_cons,sumB_cons]; omega
    · rw [if_neg h,if_neg h,sumB_cons,sumB_cons]
      have:=sumB_putN S p; omega
theorem putN_len (S:FL) (p:List UInt8 × List UInt8):(putN S p).length≤S.length+1:=by
  unfold putN
  split
  · rw [List.length_set]; omega
  · simp
theorem wrB_split (old:List UInt8) (at0:Nat) (s:List UInt8):(wrB old at0 s)=((old++List.replicate ((at0+s.length) - old.length) 0).take at0++s++(old++List.replicate ((at0+s.length) - old.length) 0).drop (at0+s.length)):=by
  unfold wrB
  have e1:putL (List.replicate (max old.length (at0+s.length)) (0:UInt8)) 0 old=old++List.replicate ((at0+s.length) - old.length) 0:=by
    rw [putL_gen old _ 0 (by rw [List.length_replicate]; omega)]
    simp only [List.take_zero,List.nil_append,Nat.zero_add,List.drop_replicate]
    congr 2; omega
  rw [e1,putL_gen s _ at0 (by rw [List.length_append,List.length_replicate]; omega)]
def setN (n s:List UInt8):FL→FL
  | [] => if s=[] then [] else [(n,s)]
  | p :: l => if Op.bytesLess p.1 n=true then p :: setN n s l else (if s=[] then [] else [(n,s)])++(p :: l).filter (fun q => !decide (q.1=n))
theorem setN_mem (n s:List UInt8):∀ (S:FL) (q:List UInt8 × List UInt8),q∈setN n s S↔(s≠[]∧q=(n,s))∨(q∈S∧q.1≠n)
  | [],q => by
    unfold setN
    by_cases hs:s=[]
    · simp [hs]
    · simp [hs]
  | p :: l,q => by
    unfold setN
    by_cases h:Op.bytesLess p.1 n=true
    · rw [if_pos h,List.mem_cons,setN_mem n s l q]
      have hne:=less_ne h
      constructor
      · rintro (rfl | h1 | h1)
        · exact .inr ⟨by simp,hne⟩
        · exact .inl h1
        · exact .inr ⟨List.mem_cons_of_mem _ h1.1,h1.2⟩
      · rintro (h1 | ⟨h1,h2⟩)
        · exact .inr (.inl h1)
        · rcases List.mem_cons.1 h1 with rfl | h1
          · exact .inl rfl
          · exact .inr (.inr ⟨h1,h2⟩)
    · rw [if_neg h,List.mem_append,List.mem_filter]
      by_cases hs:s=[]
      · simp [hs]
      · simp [hs]
theorem risN_filter (f:List UInt8 × List UInt8→Bool):∀ {S:FL},risN S=true→risN (S.filter f)=true
  | [],_ => rfl
  | p :: l,h => by
    have ih:=risN_filter f (risN_tail h)
    rw [List.filter_cons]
    split
    · exact risN_cons ih (fun q hq=>risN_head h q (List.mem_filter.1 hq).1)
    · exact ih
theorem setN_ris (n s:List UInt8):∀ {S:FL},risN S=true→risN (setN n s S)=true
  | [],_ => by
    unfold setN
    split
    · rfl
    · rfl
  | p :: l,h => by
    unfold setN
    by_cases hp:Op.bytesLess p.1 n=true
    · rw [if_pos hp]
      refine risN_cons (setN_ris n s (risN_tail h)) (fun q hq=>?_)
      rcases (setN_mem n s l q).1 hq with⟨-,rfl⟩ | ⟨h1,-⟩
      · exact hp
      · exact risN_head h q h1
    · rw [if_neg hp]
      have hf:=risN_filter (fun q=>!decide (q.1=n)) h
      by_cases hs:s=[]
      · rw [if_pos hs]; exact hf
      · rw [if_neg hs]
        refine risN_cons hf (fun q hq=>?_)
        have hq2:=List.mem_filter.1 hq
        have hqn:q.1≠n:=by simpa using hq2.2
        have hpn:n=p.1∨Op.bytesLess n p.1=true:=by
          rcases less_tri p.1 n with h1 | h1 | h1
          · exact (hp h1).elim
          · exact .inl h1.symm
          · exact .inr h1
        rcases List.mem_cons.1 hq2.1 with rfl | hq3
        · rcases hpn with h1 | h1
          · exact (hqn h1.symm).elim
          · exact h1
        · have h2:=risN_head h q hq3
          rcases hpn with h1 | h1
          · rw [h1]; exact h2
          · exact less_trans h1 h2
theorem putN_mem_iff:∀ {T:FL}{p:List UInt8 × List UInt8},(T.map (·.1)).Nodup→∀ q,q∈putN T p↔q=p∨(q∈T∧q.1≠p.1)
  | [],p,_,q => by rw [putN_nil]; simp
  | x :: T,p,h,q => by
    rw [List.map_cons,List.nodup_cons] at h
    rw [putN_cons]
    by_cases hx:x.1=p.1
    · rw [if_pos hx,List.mem_cons]
      constructor
      · rintro (rfl | h1)
        · exact .inl rfl
        · refine .inr ⟨List.mem_cons_of_mem _ h1,fun h2 => h.1 ?_⟩
          rw [hx,← h2]
          exact List.mem_map_of_mem (f:=fun y:List UInt8 × List UInt8=>y.1) h1
      · rintro (rfl | ⟨h1,h2⟩)
        · exact .inl rfl
        · rcases List.mem_cons.1 h1 with rfl | h1
          · exact (h2 hx).elim
          · exact .inr h1
    · rw [if_neg hx,List.mem_cons,putN_mem_iff h.2 q]
      constructor
      · rintro (rfl | h1 | ⟨h1,h2⟩)
        · exact .inr ⟨by simp,hx⟩
        · exact .inl h1
        · exact .inr ⟨List.mem_cons_of_mem _ h1,h2⟩
      · rintro (h1 | ⟨h1,h2⟩)
        · exact .inr (.inl h1)
        · rcases List.mem_cons.1 h1 with rfl | h1
          · exact .inl rfl
          · exact .inr (.inr ⟨h1,h2⟩)
theorem putN_nodup:∀ {T:FL}{p:List UInt8 × List UInt8},(T.map (·.1)).Nodup→((putN T p).map (·.1)).Nodup
  | [],p,_ => by rw [putN_nil]; simp
  | x :: T,p,h => by
    have h0:=h
    rw [List.map_cons,List.nodup_cons] at h
    rw [putN_cons]
    by_cases hx:x.1=p.1
    · rw [if_pos hx,List.map_cons,List.nodup_cons,← hx]; exact h
    · rw [if_neg hx,List.map_cons,List.nodup_cons]
      refine⟨fun h1=>?_,putN_nodup h.2⟩
      obtain⟨q,h2,h3⟩:=List.mem_map.1 h1
      rcases (putN_mem_iff h.2 q).1 h2 with rfl | ⟨h4,-⟩
      · exact hx h3.symm
      · exact h.1 (by rw [← h3]; exact List.mem_map_of_mem (f:=fun y:List UInt8 × List UInt8=>y.1) h4)
theorem nodup_of_names {T:FL}(h:(T.map (·.1)).Nodup):T.Nodup:=(List.pairwise_map.1 h).imp fun hne e=>hne (congrArg _ e)
theorem ord_put {T:FL}(hT:(T.map (·.1)).Nodup) {n s:List UInt8}(hs:s≠[]):ordN (putN T (n,s))=setN n s (ordN T):=by
  have hr:=setN_ris n s (ordN_ris hT)
  refine ordN_of_perm hr ?_
  rw [List.perm_ext_iff_of_nodup (nodup_of_names (putN_nodup hT)) (nodup_of_names (risN_nodup hr))]
  intro q
  rw [putN_mem_iff hT,setN_mem,(ordN_perm hT).mem_iff]
  simp [hs]
theorem ord_del {T:FL}(hT:(T.map (·.1)).Nodup) (n:List UInt8):ordN (T.filter fun q=>!decide (q.1=n))=setN n [] (ordN T):=by
  have hr:=setN_ris n [] (ordN_ris hT)
  refine ordN_of_perm hr ?_
  rw [List.perm_ext_iff_of_nodup ((nodup_of_names hT).filter _) (nodup_of_names (risN_nodup hr))]
  intro q
  rw [List.mem_filter,setN_mem,(ordN_perm hT).mem_iff]
  simp
theorem read_ord {T:FL}(hT:(T.map (·.1)).Nodup) (n:List UInt8):readN (ordN T) n=readN T n:=(readN_perm hT (ordN_perm hT).symm n).symm
theorem sum_ord {T:FL}(hT:(T.map (·.1)).Nodup):sumB (ordN T)=sumB T:=sumB_perm (ordN_perm hT)
theorem wrB_ne {old s:List UInt8}{at0:Nat}(hs:s≠[]):wrB old at0 s≠[]:=by
  intro h
  have h1:=wrB_len old at0 s
  rw [h] at h1
  have:=List.length_pos_iff.2 hs
  simp at h1
  omega
def crashR:FL→List (List UInt8 × Nat × List UInt8)→(Nat→Int)→Nat→FL
  | S,[],_,_ => S
  | S,(n,at0,s) :: W,K,i => crashR (if 0 < min (max (K i) 0) (s.length:Int) then setN n (wrB (readN S n) at0 (s.take (min (max (K i) 0) (s.length:Int)).toNat)) S else S) W K (i+1)
theorem cut_nodup {T:FL}{n:List UInt8}{at0:Nat}{s:List UInt8}{k:Int}(hT:(T.map (·.1)).Nodup):((cutN T n at0 s k).map (·.1)).Nodup:=by
  unfold cutN
  split
  · exact putN_nodup hT
  · exact hT
theorem ord_crash:∀ (W:List (List UInt8 × Nat × List UInt8)) (T:FL) (K:Nat→Int) (i:Nat),(T.map (·.1)).Nodup→ordN (crashN T W K i)=crashR (ordN T) W K i∧((crashN T W K i).map (·.1)).Nodup
  | [],T,K,i,h =>⟨rfl,h⟩
  | (n,at0,s) :: W,T,K,i,h => by
    have ih:=ord_crash W (cutN T n at0 s (min (max (K i) 0) s.length)) K (i+1) (cut_nodup h)
    refine⟨?_,ih.2⟩
    show ordN (crashN (cutN T n at0 s (min (max (K i) 0) s.length)) W K (i+1))=_
    rw [ih.1,crashR]
    congr 1
    unfold cutN
    by_cases hk:0 < min (max (K i) 0) (s.length:Int)
    · rw [if_pos hk,if_pos hk,ord_put h,read_ord h]
      refine wrB_ne ?_
      intro h1
      have h2:=congrArg List.length h1
      rw [List.length_take,List.length_nil] at h2
      omega
    · rw [if_neg hk,if_neg hk]
theorem At.endCK {P:Program}{f:FuncId}{fn:Func}{w0:World}{m:List Nat}{Q:Value→Bx→List Seg→Prop}{env:Env}{bx bx':Bx}{hp hp':List Seg}{D:Nat}(mb mh:List Bool) (hs:List Hint)
    (hf:P.funcs[f]?=some fn) {vs:List Value}{ob:Prop}(h:resL P hp ⟨w0,m⟩ env bx fn.results.toList hs=some (vs,ob)) (ho:ob) (hsel:forceL (selL mb bx) (fun a=>forceL (selL mh hp) fun b=>(a,b))=(bx',hp')) (hQ:Q (tupV vs) bx' hp') :
    At (triCtx P f fn w0 m Q) ⟨1,[],[]⟩ [{ target:=.collected D,args:=#[] }] env bx (hp++[markSeg D]) ⟨w0,m⟩:=by
  intro w hw tm hsz hk cs
  have hD:w.heap[D]?=some (.deferred (some [])):=hw.hp (markSeg D) (by simp)
  have hlt:=(Array.getElem?_eq_some_iff.1 hD).1
  have htake:=run_takeDeferred (P:=P) hD
  have hperm:(kys bx (hp++[markSeg D])).Perm (D :: kys bx hp):=by
    unfold kys
    simp only [List.flatMap_append,List.flatMap_cons,List.flatMap_nil,List.append_nil,markSeg]
    rw [← List.append_assoc]
    exact List.perm_append_singleton _ _
  have hnd:=List.nodup_cons.1 (hperm.nodup_iff.1 hw.nd)
  have hw':WOk ⟨w0,m⟩ bx hp (w.putObj D (.deferred none)):=by
    have hex:Ext [D] w (w.putObj D (.deferred none)):=⟨rfl,rfl,rfl,(by first | exact Nat.le_refl _ | exact Nat.le_succ _ | exact Nat.le_add_right _ _),by simp,fun k _ hn=>World.putObj_heap_other (by simpa using hn)⟩
    have hin:∀ k,k∈kys bx hp→k∈kys bx (hp++[markSeg D]):=fun k hm=>hperm.mem_iff.2 (List.mem_cons_of_mem _ hm)
    have hne:∀ k,k∈kys bx hp→(w.putObj D (.deferred none)).heap[k]?=w.heap[k]?:=fun k hm=>World.putObj_heap_other (fun e=>hnd.1 (e ▸ hm))
    refine⟨hw.ext.then hex (fun i hi=>by simp only [List.mem_singleton] at hi; subst hi; exact hw.own _ (hperm.mem_iff.2 (List.mem_cons_self ..))),hnd.2,fun k hm=>by rw [World.putObj_size]; exact hw.lt k (hin k hm),fun k hm=>hw.own k (hin k hm),fun e he=>?_,fun s hs=>?_⟩
    · rw [hne _ (mem_kys_bx he)]; exact hw.bx e he
    · exact s.loc w _ (fun k hm=>hne k (mem_kys_hp hs hm)) (hw.hp s (by simp [hs]))
  have hres:=run_results (P:=P) (resL_ok hw' hk _ _ _ _ h ho)
  have hsub:∀ k,k∈kys bx' hp'→k∈kys bx hp:=by
    simp only [forceL_eq,Prod.mk.injEq] at hsel
    obtain⟨rfl,rfl⟩:=hsel
    intro k hk'
    exact (kys_perm (selL_perm mb bx) (selL_perm mh hp)).mem_iff.2 (List.mem_append_left _ hk')
  have hR:TriR w0 m Q (.returned (tupV vs)) (w.putObj D (.deferred none)):=⟨_,bx',hp',rfl,hQ,hw'.ext,hw'.toOwn.sel mb mh hsel,fun k hk'=>hw'.own k (hsub k hk')⟩
  have hst:Go.step P (lone ((triCtx P f fn w0 m Q).fr tm [{ target:=.collected D,args:=#[] }] []) cs w)=.next (lone { (triCtx P f fn w0 m Q).fr tm [{ target:=.collected D,args:=#[] }] [] with mode:=.returning } cs w) :=
    step_lone_go (by simp [stepG,stepG.exec,Ctx.fr,triCtx,fnCtx])
  have hst2:=step_collected (P:=P) (cs:=cs) (fr:={ (triCtx P f fn w0 m Q).fr tm [{ target:=.collected D,args:=#[] }] [] with mode:=.returning }) (by simp) rfl rfl htake
  refine (triCtx P f fn w0 m Q).back _ _ _ (by simpa [items,triCtx,fnCtx,kont] using hst) ?_
  refine (triCtx P f fn w0 m Q).back _ _ _ hst2 ?_
  exact⟨_,_,_,hR,Steps.refl _ _,rfl,rfl,rfl,rfl,fn,hf,hres⟩
theorem At.boxRowN {C:Ctx}{x:Eng.Loc}{df:List Deferred}{env:Env}{bx:Bx}{hp:List Seg}{S:Base}{b t n:Nat}{cs:List Value}(sz:Nat) (hn:cs.length=n * sz) (h63:n≤9223372036854775807) (hk:At C x df env bx (Seg.row (some b) t sz n n cs :: hp) S):At C x df env ((b,t,cs) :: bx) hp S:=by
  intro w hw
  refine hk w ⟨hw.ext,?_,?_,?_,fun e he=>hw.bx e (by simp [he]),fun s hs=>?_⟩
  · exact (List.perm_middle.nodup_iff).2 hw.nd
  · intro k hm; exact hw.lt k (List.perm_middle.mem_iff.1 hm)
  · intro k hm; exact hw.own k (List.perm_middle.mem_iff.1 hm)
  · rcases List.mem_cons.1 hs with rfl | hs
    · refine⟨hn,Nat.le_refl _,h63,by simp,fun g hg=>?_⟩
      cases hg
      exact⟨cs.toArray,(0,0),hw.bx (b,t,cs) (by simp),by simp [hn],by rw [List.toList_toArray,List.take_of_length_le (by omega)],.inl rfl⟩
    · exact hw.hp s hs
theorem At.cutL {ι:Type}{C:Ctx}{x:Eng.Loc}{df:List Deferred}{env0:Env}{bx0:Bx}{s:Seg}{hp0:List Seg}{S:Base}(y:Eng.Loc) (env:ι→Env) (bx:ι→Bx) (hp:ι→List Seg)
    (h1:∀ q,At C y df (env q) (bx q) (s :: hp q) S) (h2:(∀ q,At C y df (env q) (bx q) (s :: hp q) S)→At C x df env0 bx0 (s :: hp0) S):At C x df env0 bx0 (s :: hp0) S:=h2 h1
end Go.Eng
namespace Go.Proofs
open Go Go.Eng
set_option maxRecDepth 100000
set_option maxHeartbeats 4000000
attribute [local irreducible] Tri
theorem perm_range {T:List Nat}{n:Nat}(hn:T.Nodup) (h1:∀ i,i∈T→i < n) (h2:∀ i,i < n→i∈T):T.Perm (List.range n):=by
  rw [List.perm_ext_iff_of_nodup hn List.nodup_range]
  intro a
  rw [List.mem_range]
  exact⟨h1 a,h2 a⟩
def leftN (n:Nat) (T:List Nat):Nat:=((List.range n).filter fun i=>!T.contains i).length
theorem leftN_snoc {n i:Nat}{T:List Nat}(hi:i < n) (hT:i ∉ T):leftN n (T++[i]) < leftN n T:=by
  unfold leftN
  refine filter_lt (fun i=>!T.contains i) (fun j=>!(T++[i]).contains j) ?_ i ?_ ?_ _ (List.mem_range.2 hi)
  · intro x hx
    simp only [Bool.not_eq_true',List.contains_eq_mem,decide_eq_false_iff_not,List.mem_append,not_or] at hx ⊢
    exact hx.1
  · simp [hT]
  · simp
theorem nodup_snoc {T:List Nat}{i:Nat}(hn:T.Nodup) (hi:i ∉ T):(T++[i]).Nodup:=by
  rw [List.nodup_append]
  exact⟨hn,by simp,fun a ha b hb e=>hi (by simp only [List.mem_singleton] at hb; rw [← hb,← e]; exact ha)⟩
theorem lt_snoc {T:List Nat}{i n:Nat}(h:∀ k,k∈T→k < n) (hi:i < n):∀ k,k∈T++[i]→k < n:=by
  intro k hk
  simp only [List.mem_append,List.mem_singleton] at hk
  rcases hk with hk | rfl
  · exact h k hk
  · exact hi
end Go.Proofs
