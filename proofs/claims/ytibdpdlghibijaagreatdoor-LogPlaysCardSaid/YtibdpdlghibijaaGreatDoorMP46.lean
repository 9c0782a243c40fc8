/-
  Walks of layer 9: files listed by their names.
-/
import Derived.Test.YtibdpdlghibijaaGreatDoorMP44
import Derived.Test.YtibdpdlghibijaaGreatDoorMP12
import Derived.Test.YtibdpdlghibijaaGreatDoorMP45
import Derived.Sort.OwnSorted
import Derived.Test.YtibdpdlghibijaaGreatDoorMP7
namespace Go.Proofs
open Go Go.Eng
set_option maxRecDepth 100000
set_option maxHeartbeats 4000000
attribute [local irreducible] Tri
def strs (ss:List (List UInt8)):List Value:=ss.map str
theorem strs_len (ss:List (List UInt8)):(strs ss).length=ss.length:=by simp [strs]
theorem Tryz.sort_w (g n cap:Nat) (ss:List (List UInt8)) (w:World) (hown:Own [] [Seg.row (some g) 9 1 ss.length cap (strs ss)] w) (hn:ss.length=n) (hlen:ss.length≤1000000) :
    Tri Tryz.prog 126 [sv (some g) n cap] w (kys [] [Seg.row (some g) 9 1 ss.length cap (strs ss)])
      (fun v bx hp=>v=.tuple #[]∧bx=[]∧hp=[Seg.row (some g) 9 1 ss.length cap (strs (ss.mergeSort fun x y=>decide (x≤y)))]):=by
  subst hn
  have hrow:rowOk w (some g) 9 1 ss.length cap (strs ss):=hown.hp (Seg.row (some g) 9 1 ss.length cap (strs ss)) (by simp)
  obtain⟨cur,fr,h1,h2,h3,h4⟩:=hrow.blk g rfl
  have hle:=hrow.le
  have hlt:=(Array.getElem?_eq_some_iff.1 h1).1
  have hH:Sort.Holds encStr w g 0 ss.toArray:=by
    intro j hj
    have hj':j < ss.length:=by simpa using hj
    have hs:(strs ss)[j]?=some (str ss[j]):=by simp [strs,hj']
    refine⟨?_,?_⟩
    · rw [Nat.zero_add,hrow.cell hs]
      simp [hj',getElem!_pos]
      rfl
    · rw [Nat.zero_add]
      simp only [World.frozen?,h1]
      rcases h4 with h4 | h4
      · rw [h4]; simp
      · obtain⟨lo,hi⟩:=fr
        have:¬ lo≤j:=by simp only at h4; omega
        simp [this]
  refine Tri.mk ⟨_,Tryz.func126,rfl,by decide⟩ ?_
  refine (Tryz.slices_Sort_string g 0 cap ss w hH hlt (by omega)).mono ?_
  rintro e w' ⟨rfl,q,os,rfl⟩
  have hsl:(ss.mergeSort fun x y=>decide (x≤y)).length=ss.length:=List.length_mergeSort _
  have hheap:∀ k,k < w.heap.size→k≠g→(Sort.grow (Sort.putRow encStr (Sort.ahead w q) g 0 (ss.mergeSort fun x y=>decide (x≤y)).toArray) os).heap[k]?=w.heap[k]?:=by
    intro k hk hne
    rw [Sort.heap_grow_old _ _ (by simpa using hk)]
    simp [Sort.putRow,Sort.mapBlock,Sort.ahead,Array.getElem?_modify,Ne.symm hne]
  have hblk:(Sort.grow (Sort.putRow encStr (Sort.ahead w q) g 0 (ss.mergeSort fun x y=>decide (x≤y)).toArray) os).heap[g]?=some (.cells (Sort.putCells encStr 0 (ss.mergeSort fun x y=>decide (x≤y)).toArray cur) 9 fr):=by
    rw [Sort.heap_grow_old _ _ (by simpa using hlt)]
    simp [Sort.putRow,Sort.mapBlock,Sort.ahead,Array.getElem?_modify,h1,Sort.onCells]
  have hsz:(Sort.putCells encStr 0 (ss.mergeSort fun x y=>decide (x≤y)).toArray cur).size=cur.size:=by simp [Sort.putCells]
  have htk:=_root_.Go.take_putCells cur (ss.mergeSort fun x y=>decide (x≤y)) (by omega)
  refine⟨.tuple #[],[],_,rfl,⟨rfl,rfl,rfl⟩,⟨rfl,rfl,rfl,(by first | exact Nat.le_refl _ | exact Nat.le_succ _ | exact Nat.le_add_right _ _),by simp,fun k hk hm=>hheap k hk (by simpa [kys,Seg.row] using hm)⟩,⟨by simp [kys,Seg.row],fun k hk=>?_,by simp,fun s hs=>?_⟩,fun k hk=>.inl hk⟩
  · have:k=g:=by simpa [kys,Seg.row] using hk
    subst this
    simp; omega
  · simp only [List.mem_singleton] at hs
    subst hs
    refine⟨by rw [strs_len,hsl]; omega,hrow.le,hrow.max,by simp,fun g' hg'=>?_⟩
    cases hg'
    refine⟨_,fr,hblk,by rw [hsz]; exact h2,?_,by rw [hsz]; exact h4⟩
    rw [Nat.mul_one,← hsl]
    exact htk
def someN (F:List FileE) (T:List Nat):List (List UInt8):=T.filterMap fun i=>(F[i]?).map (·.name)
theorem someN_snoc {F:List FileE}{T:List Nat}{i:Nat}{f:FileE}(h:F[i]?=some f):someN F (T++[i])=someN F T++[f.name]:=by simp [someN,h]
theorem someN_nb (F:List FileE) (T:List Nat):someN F T=(someF F T).map (·.1):=by
  unfold someN someF
  rw [List.map_filterMap]
  congr 1
  funext i
  cases F[i]? <;> rfl
theorem someN_all {F:List FileE}{T:List Nat}(hp:T.Perm (List.range F.length)):(someN F T).Perm (F.map FileE.name):=by
  rw [someN_nb]
  have:=(someF_all hp).map (·.1)
  have e:(nbs F).map (·.1)=F.map FileE.name:=by simp only [nbs,List.map_map]; rfl
  rw [e] at this; exact this
theorem ones_len {F:List FileE}:∀ {T:List Nat},(∀ i,i∈T→i < F.length)→(T.map (atF F fun _ => 1)).sum=T.length∧(someN F T).length=T.length
  | [],_ =>⟨rfl,rfl⟩
  | i :: T,hT => by
    have hi:=hT i (by simp)
    obtain⟨h1,h2⟩:=ones_len (T:=T) (fun k hk=>hT k (List.mem_cons_of_mem _ hk))
    have hg:=List.getElem?_eq_getElem hi
    constructor
    · rw [List.map_cons,List.sum_cons,h1,List.length_cons]
      simp only [atF,hg]; omega
    · have:someN F (i :: T)=F[i].name :: someN F T:=by simp [someN,hg]
      rw [this,List.length_cons,h2,List.length_cons]
theorem someN_len {F:List FileE}{T:List Nat}(hn:T.Nodup) (hT:∀ i,i∈T→i < F.length):(someN F T).length≤F.length:=by
  obtain⟨h1,h2⟩:=ones_len hT
  have:=sum_part F (fun _=>1) hn hT
  have e:∀ G:List FileE,(G.map fun _=>(1:Nat)).sum=G.length:=by
    intro G
    induction G with
    | nil => rfl
    | cons g G ih => rw [List.map_cons,List.sum_cons,ih,List.length_cons]; omega
  have e1:=e F
  omega
theorem Tryz.Keys_w (m:Nat) (w:World):Tri Tryz.prog 100 [.map (some m)] w [] (fun v bx hp=>∃ b,v=.func (.func 127) ⟨[]⟩ ⟨[.pointer (some ⟨b,0,none⟩)]⟩∧bx=[(b,90,[.map (some m)])]∧hp=[]):=by
  refine Tri.enter (bx:=[]) (hp:=[]) Tryz.func100 rfl (by kernel_rfl) rfl (Own.nil w) ?_
  refine At.run 100 true [] [] rfl trivial ?_
  refine At.step [] rfl rfl rfl rfl rfl trivial (OpOk.box rfl rfl rfl fun b hb=>?_)
  refine At.run 100 true [] [] rfl oK ?_
  exact At.ret [] rfl Tryz.func100 rfl trivial ⟨b,rfl,rfl,rfl⟩
theorem Tryz.keys1_w (b m:Nat) (F:List FileE) (w:World) (hF:MapIs w m .string (F.map FileE.ent)) :
    IterP Tryz.prog 127 [.pointer (some ⟨b,0,none⟩)] [(b,90,[.map (some m)])] [m] (fun n=>[str n]) (fun pre=>pre.length≤F.length) (fun xs=>xs.Perm (F.map FileE.name)) w:=by
  intro y s0 J hJ hown hfree hyield
  refine Tri.enter Tryz.func127 rfl (by kernel_rfl) rfl hown ?_
  obtain⟨es,clock,hbm,hst,hks,hL⟩:=hF
  have hlt:=(Array.getElem?_eq_some_iff.1 hbm).1
  have hm0:m ∉ kys [(b,90,[.map (some m)])] [s0]:=hfree m (by simp)
  have hM:∀ {bx:Bx}{hp:List Seg}{w':World},WOk ⟨w,kys [(b,90,[.map (some m)])] [s0]⟩ bx hp w'→w'.heap[m]?=some (.map es clock):=fun {_ _ w'} hw'=>by rw [hw'.ext.block m hlt hm0]; exact hbm
  have hes:es.size=F.length:=by have:=congrArg List.length hL; simpa using this
  refine At.run 100 true [] [hB 0] rfl oK ?_
  refine At.step [] rfl rfl rfl rfl rfl trivial (OpOk.rangeMap rfl rfl Tryz.filesT (fun w' hw'=>hM hw') fun r=>?_)
  refine At.run 100 true [] [] rfl oK ?_
  refine At.loop (n:=leftN F.length []) (env0:=[(0,.func (.yield y) #[] #[]),(5,.pointer (some ⟨r,0,none⟩))]) (fun k env bx hp => ∃ (T:List Nat) (s:Seg),k=leftN F.length T∧T.Nodup∧(∀ i,i∈T→i < F.length)∧J (someN F T) s ∧
    env=[(0,.func (.yield y) #[] #[]),(5,.pointer (some ⟨r,0,none⟩))]∧bx=[(b,90,[.map (some m)])]∧hp=[Seg.iter r m es clock T,s]) rfl ⟨[],s0,by simp,by simp,by simp,hJ,rfl,rfl,rfl⟩ ⟨rfl,rfl,trivial⟩ ?_
  rintro k env bx hp ⟨T,s,rfl,hn,hT,hJT,rfl,rfl,rfl⟩ ih
  refine At.run 100 true [] [] rfl trivial ?_
  refine At.step [] rfl rfl rfl rfl rfl trivial (OpOk.nextMap 0 rfl rfl rfl (fun w' hw'=>hM hw') hst (fun i hi=>by rw [hes]; exact hT i hi) (fun hall=>?_) (fun i e hi he=>?_))
  · have hp:=perm_range hn hT (fun i hi => hall i (by rw [hes]; exact hi))
    refine At.run 100 true [false] [] rfl oK ?_
    refine At.keep [true] [false,true] rfl ?_
    exact At.ret [] rfl Tryz.func127 rfl trivial ⟨rfl,s,rfl,someN F T,someN_all hp,hJT⟩
  · have hil:i < F.length:=by rw [← hes]; exact (Array.getElem?_eq_some_iff.1 he).1
    obtain⟨f,hf⟩:∃ f,F[i]?=some f:=⟨_,List.getElem?_eq_getElem hil⟩
    have hee:(e.key,e.val)=f.ent:=by
      have h1:(es.toList.map fun e=>(e.key,e.val))[i]?=some (e.key,e.val):=by rw [List.getElem?_map,Array.getElem?_toList,he]; rfl
      rw [hL,List.getElem?_map,hf] at h1
      exact (Option.some.inj h1).symm
    obtain⟨kk,v,born⟩:=e
    simp only [FileE.ent,Prod.mk.injEq] at hee
    obtain⟨rfl,rfl⟩:=hee
    simp only
    have hT':=lt_snoc hT hil
    have hn':=nodup_snoc hn hi
    refine At.run 100 true [true] [] rfl oK ?_
    refine At.step [] rfl rfl rfl rfl rfl trivial (OpOk.entryMap (T:=T) (i:=i) 0 rfl rfl rfl (fun w' hw'=>hM hw') hst he ?_)
    simp only
    refine At.run 100 true [] [] rfl oK ?_
    refine At.yield [] rfl rfl rfl rfl rfl trivial (lp:=y) (args:=[str f.name]) rfl [] [false,true] (bm:=[]) (hm:=[s]) (br:=[(b,90,[.map (some m)])]) (hr:=[Seg.iter r m es clock (T++[i])]) (Q:=fun bx hp => bx=[]∧∃ s',hp=[s']∧J (someN F T++[f.name]) s') rfl
      (fun w' hw'=>hyield (someN F T) f.name s w' (by rw [← someN_snoc hf]; exact someN_len hn' hT') hJT (hw'.toOwn.sel [] [false,true] rfl) hw'.ext) ?_
    rintro _ _ ⟨rfl,s',rfl,hJ'⟩
    refine At.run 100 true [false] [] rfl oK ?_
    refine At.order [] [1] rfl rfl ?_
    exact At.weak (ih _ _ _ _ (leftN_snoc hil hi) ⟨T++[i],s',rfl,hn',hT',by rw [someN_snoc hf]; exact hJ',rfl,rfl,rfl⟩) ⟨rfl,rfl,trivial⟩
theorem Tryz.appendSeq_w (b m:Nat) (F:List FileE) (w:World) (hown:Own [(b,90,[.map (some m)])] [] w) (hF:MapIs w m .string (F.map FileE.ent)) (hlen:F.length≤1000000) :
    Tri Tryz.prog 140 [.slice none 0 0,.func (.func 127) ⟨[]⟩ ⟨[.pointer (some ⟨b,0,none⟩)]⟩] w (kys [(b,90,[.map (some m)])] [])
      (fun v bx hp=>∃ a c xs,v=sv a xs.length c∧bx=[(b,90,[.map (some m)])]∧hp=[Seg.row a 9 1 xs.length c (strs xs)]∧xs.Perm (F.map FileE.name)):=by
  refine Tri.enter (bx:=[(b,90,[.map (some m)])]) (hp:=[]) Tryz.func140 rfl (by kernel_rfl) rfl hown ?_
  have hb0:=hown.bx (b,90,[.map (some m)]) (by simp)
  have hmb:m ∉ kys [(b,90,[.map (some m)])] []:=by
    intro h
    have:m=b:=by simpa [kys] using h
    subst this
    obtain⟨es,clock,h1,-⟩:=hF
    rw [hb0] at h1; cases h1
  refine At.run 100 true [] [] rfl trivial ?_
  refine At.step [] rfl rfl rfl rfl rfl trivial (OpOk.box rfl rfl rfl fun b2 hb2=>?_)
  refine At.run 100 true [] [] rfl oK ?_
  refine At.nilRow 9 1 ?_
  refine At.order [1] [] rfl rfl ?_
  refine At.rangeP (bi:=[(b,90,[.map (some m)])]) (bc:=[(b2,24,[sv none 0 0])]) (hp:=[Seg.row none 9 1 0 0 []]) rfl rfl rfl (rd:=[m]) (fun k hk=>by
      simp only [List.mem_singleton] at hk; subst hk; exact⟨hF.lt,hmb⟩)
    (enc:=fun n:List UInt8=>[str n]) (okp:=fun pre:List (List UInt8)=>pre.length≤F.length) (fin:=fun xs:List (List UInt8)=>xs.Perm (F.map FileE.name)) (fun _=>rfl) rfl
    (fun pre bx hp=>∃ a1 cap1,bx=[(b2,24,[sv a1 pre.length cap1])]∧hp=[Seg.row a1 9 1 pre.length cap1 (strs pre)]) ⟨none,0,rfl,rfl⟩
    (fun w' hext=>Tryz.keys1_w b m F w' (hF.ext hext hmb)) ?_ ?_
  · rintro lp D tm pre x bx hp w' hpre ⟨a1,cap1,rfl,rfl⟩ hext
    simp only [List.length_append,List.length_singleton] at hpre
    refine At.run 100 true [] [] rfl trivial ?_
    refine At.begin ?_
    refine At.run 100 true [] [hB 0] rfl oK ?_
    refine At.append1 1 1 16 rfl rfl rfl rfl rfl rfl rfl rfl rfl trivial (fun _=>rfl) trivial rfl rfl rfl rfl rfl rfl rfl rfl (fun _=>rfl) (by simp [Value.oneCell',str]) (by omega) (by omega) (fun bb a2 cap2=>?_)
    refine At.run 100 true [] [hB 0] rfl oK ?_
    exact At.roundEnd ⟨_,rfl,a2,cap2,by simp,by simp [strs,setL]⟩
  · rintro D bx' hp' xs hfin ⟨a1,cap1,rfl,rfl⟩
    refine At.run 100 true [] [hB 1] rfl oK ?_
    refine At.keep [true] [true,true] rfl ?_
    exact At.retC (hp:=[_]) [] rfl Tryz.func140 rfl trivial ⟨a1,cap1,xs,rfl,rfl,rfl,hfin⟩
theorem Tryz.collect_w (b m:Nat) (F:List FileE) (w:World) (hown:Own [(b,90,[.map (some m)])] [] w) (hF:MapIs w m .string (F.map FileE.ent)) (hlen:F.length≤1000000) :
    Tri Tryz.prog 125 [.func (.func 127) ⟨[]⟩ ⟨[.pointer (some ⟨b,0,none⟩)]⟩] w (kys [(b,90,[.map (some m)])] [])
      (fun v bx hp=>∃ a c xs,v=sv a xs.length c∧bx=[(b,90,[.map (some m)])]∧hp=[Seg.row a 9 1 xs.length c (strs xs)]∧xs.Perm (F.map FileE.name)):=by
  refine Tri.enter (bx:=[(b,90,[.map (some m)])]) (hp:=[]) Tryz.func125 rfl (by kernel_rfl) rfl hown ?_
  have hb0:=hown.bx (b,90,[.map (some m)]) (by simp)
  have hmb:m ∉ kys [(b,90,[.map (some m)])] []:=by
    intro h
    have:m=b:=by simpa [kys] using h
    subst this
    obtain⟨es,clock,h1,-⟩:=hF
    rw [hb0] at h1; cases h1
  refine At.run 100 true [] [] rfl oK ?_
  refine At.step [] rfl rfl rfl rfl rfl trivial (OpOk.callAll rfl (fun w' hw'=>Tryz.appendSeq_w b m F w' hw'.toOwn (hF.ext hw'.ext hmb) hlen) ?_)
  rintro v bx' hp' ⟨a,c,xs,rfl,rfl,rfl,hp⟩
  refine At.run 100 true [] [] rfl oK ?_
  exact At.ret [] rfl Tryz.func125 rfl trivial ⟨a,c,xs,rfl,rfl,rfl,hp⟩
theorem Tryz.sort0_w (p:Option Addr) (cap:Nat) (w:World):Fun Tryz.prog 126 [.slice p 0 cap] w (.tuple #[]):=by
  refine Tri.mk ⟨_,Tryz.func126,rfl,by decide⟩ ?_
  refine (Tryz.slices_Sort_string_none p cap w).mono ?_
  rintro e w' ⟨rfl,rfl⟩
  exact⟨_,[],[],rfl,⟨rfl,rfl,rfl⟩,Ext.refl _ _,⟨by simp [kys],by simp [kys],by simp,by simp⟩,by simp [kys]⟩
theorem Tryz.sorted_w (b m:Nat) (F:List FileE) (w:World) (hown:Own [(b,90,[.map (some m)])] [] w) (hF:MapIs w m .string (F.map FileE.ent)) (hlen:F.length≤1000000) :
    Tri Tryz.prog 99 [.func (.func 127) ⟨[]⟩ ⟨[.pointer (some ⟨b,0,none⟩)]⟩] w (kys [(b,90,[.map (some m)])] [])
      (fun v bx hp=>∃ a c,v=sv a F.length c∧bx=[]∧hp=[Seg.row a 9 1 F.length c (strs (sortN (F.map FileE.name)))]):=by
  refine Tri.enter (bx:=[(b,90,[.map (some m)])]) (hp:=[]) Tryz.func99 rfl (by kernel_rfl) rfl hown ?_
  have hb0:=hown.bx (b,90,[.map (some m)]) (by simp)
  have hmb:m ∉ kys [(b,90,[.map (some m)])] []:=by
    intro h
    have:m=b:=by simpa [kys] using h
    subst this
    obtain⟨es,clock,h1,-⟩:=hF
    rw [hb0] at h1; cases h1
  refine At.run 100 true [] [] rfl oK ?_
  refine At.step [] rfl rfl rfl rfl rfl trivial (OpOk.callAll rfl (fun w' hw'=>Tryz.collect_w b m F w' hw'.toOwn (hF.ext hw'.ext hmb) hlen) ?_)
  rintro v bx' hp' ⟨a,c,xs,rfl,rfl,rfl,hp⟩
  have hxl:xs.length=F.length:=by rw [hp.length_eq]; simp
  have hso:sortN xs=sortN (F.map FileE.name):=by
    refine List.Perm.eq_of_pairwise (le:=fun a b=>leN a b=true) (fun x y _ _ h1 h2=>?_) (sortN_pair _) (sortN_pair _) ((sortN_perm _).trans (hp.trans (sortN_perm _).symm))
    rw [leN_iff] at h1 h2
    rcases less_tri x y with h | h | h
    · rw [h] at h2; cases h2
    · exact h
    · rw [h] at h1; cases h1
  rw [← hso]
  by_cases h0:xs.length=0
  · have hx:xs=[]:=List.length_eq_zero_iff.1 h0
    subst hx
    have hS0:∀ {bx:Bx}{hp:List Seg},CallOb Tryz.prog ⟨w,kys [(b,90,[.map (some m)])] []⟩ bx hp 126 [.slice (svA a) 0 c] (.tuple #[]):=fun {_ _} w' _=>Tryz.sort0_w _ _ w'
    refine At.run 100 true [] [hC (.tuple #[])] rfl (by and_intros <;> first | exact hS0 | exact oK) ?_
    refine At.keep [] [true] rfl ?_
    exact At.ret [] rfl Tryz.func99 rfl trivial ⟨a,c,by rw [← hxl]; rfl,rfl,by rw [← hxl,show sortN []=[] from List.mergeSort_nil]⟩
  · refine At.rowSome 0 rfl (by omega) (fun g hg=>?_)
    subst hg
    refine At.run 100 true [] [] rfl oK ?_
    refine At.step [] rfl rfl rfl rfl rfl trivial (OpOk.callO [] [true] rfl rfl (fun w' hw' ho=>Tryz.sort_w g xs.length c xs w' ho rfl (by omega)) ?_)
    rintro v bx' hp' ⟨rfl,rfl,rfl⟩
    refine At.run 100 true [] [] rfl oK ?_
    refine At.keep [] [true] rfl ?_
    exact At.ret [] rfl Tryz.func99 rfl trivial ⟨some g,c,by rw [← hxl]; rfl,rfl,by rw [← hxl]; rfl⟩
theorem Tryz.list_w (m:Nat) (F:List FileE) (w:World) (hF:FilesOk w 5 m F) (hlen:F.length≤1000000) :
    Tri Tryz.prog 53 [.map (some m)] w [] (fun v bx hp=>∃ a c,v=sv a F.length c∧bx=[]∧hp=[Seg.row a 57 2 F.length c (fl (ordN (nbs F)))]):=by
  refine Tri.enter (bx:=[]) (hp:=[]) Tryz.func53 rfl (by kernel_rfl) rfl (Own.nil w) ?_
  refine At.run 100 true [] [] rfl oK ?_
  refine At.step [] rfl rfl rfl rfl rfl trivial (OpOk.call rfl (fun w' hw'=>Tryz.Keys_w m w') ?_)
  rintro v bx' hp' ⟨b,rfl,rfl,rfl⟩
  refine At.run 100 true [] [] rfl oK ?_
  refine At.step [] rfl rfl rfl rfl rfl trivial (OpOk.callO [true] [] rfl rfl (fun w' hw' ho=>Tryz.sorted_w b m F w' ho (hF.ext hw'.ext (by simp [kys])).map hlen) ?_)
  rintro v bx' hp' ⟨a8,c8,rfl,rfl,rfl⟩
  have hnames:=hF.names
  have hns:sortN (F.map FileE.name)=(ordN (nbs F)).map (·.1):=by
    have e:(nbs F).map (·.1)=F.map FileE.name:=by simp only [nbs,List.map_map]; rfl
    unfold ordN pickN
    rw [List.map_map,e]
    conv=>lhs; rw [← List.map_id (sortN (F.map FileE.name))]
    rfl
  have hsl:(sortN (F.map FileE.name)).length=F.length:=by rw [(sortN_perm _).length_eq]; simp
  have hol:(ordN (nbs F)).length=F.length:=by rw [← hsl,hns]; simp
  obtain⟨R,hRR⟩:∃ R,R=ordN (nbs F):=⟨_,rfl⟩
  rw [← hRR] at hns hol ⊢
  rw [hns]
  refine At.run 100 true [] [] rfl oK ?_
  refine At.nilRow 57 2 ?_
  refine At.loop (n:=F.length) (env0:=[(0,.map (some m)),(3,sv none 0 0),(8,sv a8 F.length c8),(9,.int .i64 F.length),(10,.int .i64 0)]) (fun k env bx hp => ∃ (i:Nat) (a1:Option Nat) (c1:Nat),k=F.length - i∧i≤F.length ∧
    env=[(0,.map (some m)),(3,sv a1 i c1),(8,sv a8 F.length c8),(9,.int .i64 F.length),(10,.int .i64 i)]∧bx=[]∧hp=[Seg.row a1 57 2 i c1 (fl (R.take i)),Seg.row a8 9 1 F.length c8 (strs (R.map (·.1)))]) rfl ⟨0,none,0,by simp,by omega,rfl,rfl,rfl⟩ ⟨rfl,rfl,rfl,rfl,rfl,trivial⟩ ?_
  rintro k env bx hp ⟨i,a1,c1,rfl,hi,rfl,rfl,rfl⟩ ih
  by_cases hlt:i < F.length
  · refine At.rowSome 1 rfl (by omega) (fun g8 hg8=>?_)
    subst hg8
    obtain⟨p,hp⟩:∃ p,R[i]?=some p:=⟨_,List.getElem?_eq_getElem (by omega)⟩
    have hpm:p∈nbs F:=by
      have h1:=List.mem_of_getElem? hp
      rw [hRR] at h1
      have hn2:((nbs F).map (·.1)).Nodup:=by
        have e:(nbs F).map (·.1)=F.map (·.name):=by simp only [nbs,List.map_map]; rfl
        rw [e]; exact hnames
      exact (ordN_perm hn2).mem_iff.1 h1
    obtain⟨f,hf,rfl⟩:=List.mem_map.1 hpm
    have hg:getF F f.name=some f:=by
      unfold getF
      cases h:F.find? (fun x=>decide (x.name=f.name)) with
      | none => have:=List.find?_eq_none.1 h f hf; simp at this
      | some q =>
        have h1:=List.mem_of_find?_eq_some h
        have h2:q.name=f.name:=by simpa using List.find?_some h
        obtain⟨j1,hj1⟩:=List.mem_iff_getElem?.1 h1
        obtain⟨j2,hj2⟩:=List.mem_iff_getElem?.1 hf
        have b1:(F.map (·.name))[j1]?=some f.name:=by rw [List.getElem?_map,hj1]; simp [h2]
        have b2:(F.map (·.name))[j2]?=some f.name:=by rw [List.getElem?_map,hj2]; rfl
        have:=(List.getElem?_inj (List.getElem?_eq_some_iff.1 b1).1 hnames).1 (b1.trans b2.symm)
        subst this
        rw [hj1] at hj2; exact hj2
    have hv:valF F f.name=sv (some f.g) f.bytes.length f.cap:=by simp [valF,hg]
    have hLk:∀ {bx:Bx}{hp:List Seg},LookOb Tryz.prog ⟨w,kys [] []⟩ bx hp 90 (.map (some m)) (str f.name) false (valF F f.name):=fun {_ _}=>LookOb.file Tryz.filesT Tryz.strT Tryz.zeroBytes (fun w' hw'=>hF.ext (t:=5) hw'.ext (by simp [kys]))
    rw [hv] at hLk
    have rN:∀ {bx:Bx}{s0:Seg},RdW ⟨w,kys [] []⟩ bx [s0,Seg.row (some g8) 9 1 F.length c8 (strs (R.map (·.1)))] g8 (0+(i:Int).toNat * 1) [str f.name]:=fun {_ _}=>RdW.row (j:=1) rfl (fun j u hu=>by
      match j,hu with
      | 0,hu => simp at hu; subst hu; rw [show 0+(i:Int).toNat * 1+0=i by omega]; simp [strs,hp,FileE.nb])
    refine At.run 100 true [true] [hR [str f.name],hL (sv (some f.g) f.bytes.length f.cap)] rfl (by and_intros <;> first | exact rN | exact hLk | exact oK) ?_
    refine At.step [] rfl rfl rfl rfl rfl trivial (OpOk.toStrR f.bytes rfl rfl rfl rfl rfl rfl (fun w' hw'=>?_) ?_)
    · have hrow:=(hF.ext hw'.ext (by simp [kys])).row f hf
      intro j u hu
      rw [Nat.zero_add]; exact hrow.cell hu
    refine At.run 100 true [] [] rfl oK ?_
    refine At.append1 0 2 32 rfl rfl rfl rfl rfl rfl rfl rfl rfl trivial (fun _=>rfl) trivial rfl rfl rfl rfl rfl rfl rfl rfl (fun _=>rfl) (by simp [Value.oneCell',str]) (by omega) (by omega) (fun bb a2 c2=>?_)
    refine At.run 100 true [] [] rfl oK ?_
    refine At.weak (ih _ _ _ _ (by omega) ⟨i+1,a2,c2,rfl,by omega,rfl,rfl,?_⟩) ⟨rfl,rfl,rfl,rfl,some_int_eq (by omega),trivial⟩
    have e:fl (R.take (i+1))=fl (R.take i)++[str f.name,str f.bytes]:=by
      rw [List.take_add_one,hp]
      exact fl_snoc _ _
    rw [e]
    rfl
  · have hti:R.take i=R:=List.take_of_length_le (by omega)
    have hie:i=F.length:=by omega
    subst hie
    rw [hti]
    refine At.run 100 true [false] [] rfl oK ?_
    refine At.keep [] [true] rfl ?_
    exact At.ret [] rfl Tryz.func53 rfl trivial ⟨a1,c1,rfl,rfl,rfl⟩
theorem Tryz.DFiles_w (d room bs bk:Nat) (pv:Value) (F:List FileE) (w:World) (hb:w.heap[d]?=some (.cells (dkV room bs (.map (some bk)) pv).toArray 93 (0,0))) (hF:FilesOk w 5 bs F) (hlen:F.length≤1000000) :
    Tri Tryz.prog 17 [.pointer (some ⟨d,0,none⟩)] w [] (fun v bx hp=>∃ a c,v=sv a F.length c∧bx=[]∧hp=[Seg.row a 57 2 F.length c (fl (ordN (nbs F)))]):=by
  refine Tri.enter (bx:=[]) (hp:=[]) Tryz.func17 rfl (by kernel_rfl) rfl (Own.nil w) ?_
  have rd:∀ {bx:Bx}{hp:List Seg},RdW ⟨w,kys [] []⟩ bx hp d 1 [.map (some bs)]:=fun {_ _}=>RdW.blkB1 (by simp [kys]) hb rfl
  refine At.run 100 true [false] [hR [.map (some bs)]] rfl (by and_intros <;> first | exact rd | exact oK) ?_
  refine At.step [] rfl rfl rfl rfl rfl trivial (OpOk.call rfl (fun w' hw'=>Tryz.list_w bs F w' (hF.ext hw'.ext (by simp [kys])) hlen) ?_)
  rintro v bx' hp' ⟨a,c,rfl,rfl,rfl⟩
  refine At.run 100 true [] [] rfl oK ?_
  exact At.ret [] rfl Tryz.func17 rfl trivial ⟨a,c,rfl,rfl,rfl⟩
theorem Tryz.DKept_w (d room bs bk:Nat) (pv:Value) (F:List FileE) (w:World) (hb:w.heap[d]?=some (.cells (dkV room bs (.map (some bk)) pv).toArray 93 (0,0))) (hF:FilesOk w 5 bk F) (hlen:F.length≤1000000) :
    Tri Tryz.prog 30 [.pointer (some ⟨d,0,none⟩)] w [] (fun v bx hp=>∃ a c,v=sv a F.length c∧bx=[]∧hp=[Seg.row a 57 2 F.length c (fl (ordN (nbs F)))]):=by
  refine Tri.enter (bx:=[]) (hp:=[]) Tryz.func30 rfl (by kernel_rfl) rfl (Own.nil w) ?_
  have rd:∀ {bx:Bx}{hp:List Seg},RdW ⟨w,kys [] []⟩ bx hp d 2 [.map (some bk)]:=fun {_ _}=>RdW.blkB1 (by simp [kys]) hb rfl
  refine At.run 100 true [false] [hR [.map (some bk)]] rfl (by and_intros <;> first | exact rd | exact oK) ?_
  refine At.step [] rfl rfl rfl rfl rfl trivial (OpOk.call rfl (fun w' hw'=>Tryz.list_w bk F w' (hF.ext hw'.ext (by simp [kys])) hlen) ?_)
  rintro v bx' hp' ⟨a,c,rfl,rfl,rfl⟩
  refine At.run 100 true [] [] rfl oK ?_
  exact At.ret [] rfl Tryz.func30 rfl trivial ⟨a,c,rfl,rfl,rfl⟩
theorem SlOk.ext2 {S:Base}{bx:Bx}{hp:List Seg}{w' w'':World}{a:Option Addr}{xs:List Value}(h:SlOk S.w0 a xs) (hw':WOk S bx hp w') (hm:S.mods=[]) {m:List Nat}(hs:∀ k,k∈m→k∈kys bx hp) (he:Ext m w' w''):SlOk w'' a xs:=by
  by_cases hx:xs=[]
  · rw [hx]; exact SlOk.nil _ _
  · refine (h.ext hw'.ext (by simp [hm])).ext he (fun k hk hkm=>?_)
    have h1:=h.lt hx k hk
    rcases hw'.own k (hs k hkm) with h2 | h2
    · rw [hm] at h2; simp at h2
    · omega
end Go.Proofs
