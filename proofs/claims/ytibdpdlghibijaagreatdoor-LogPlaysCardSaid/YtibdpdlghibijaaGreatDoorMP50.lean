/-
  Layer 9: a disk as one thing; what its functions do with it.
-/
import Derived.Test.YtibdpdlghibijaaGreatDoorMP48
import Derived.Test.YtibdpdlghibijaaGreatDoorMP44
import Derived.Test.YtibdpdlghibijaaGreatDoorMP49
import Derived.Test.YtibdpdlghibijaaGreatDoorMP21
namespace Go.Proofs
open Go Go.Eng
set_option maxRecDepth 100000
set_option maxHeartbeats 4000000
attribute [local irreducible] Tri
structure DkQ (r k:Nat) where
  FS:List FileE
  FK:List FileE
  W:List PendE
  a:Option Nat
  pc:Nat
  bs:Nat
  bk:Nat
  inv:DInv r k FS FK W
def DkQ.S {r k:Nat}(q:DkQ r k):FL:=ordN (nbs q.FS)
def DkQ.K {r k:Nat}(q:DkQ r k):FL:=ordN (nbs q.FK)
def DkQ.P {r k:Nat}(q:DkQ r k):List (List UInt8 × Nat × List UInt8):=q.W.map PendE.wn
def Tryz.dkB {r k:Nat}(d:Nat) (q:DkQ r k):Bx:=[(d,93,dkV r q.bs (.map (some q.bk)) (sv q.a q.W.length q.pc))]
def Tryz.dkH {r k:Nat}(q:DkQ r k):List Seg:=[Seg.files 5 q.bs q.FS,Seg.row q.a 112 2 q.W.length q.pc (q.W.flatMap Tryz.wrC),Tryz.boxesS q.W,Seg.files 5 q.bk q.FK]
def Tryz.dkS {r k:Nat}(d:Nat) (q:DkQ r k):Seg:=Seg.pack (Tryz.dkB d q) (Tryz.dkH q)
theorem Tryz.dkS_b {r k d:Nat}{q:DkQ r k}{w:World}(h:(Tryz.dkS d q).ok w):w.heap[d]?=some (.cells (dkV r q.bs (.map (some q.bk)) (sv q.a q.W.length q.pc)).toArray 93 (0,0)):=h.1 _ (List.mem_singleton.2 rfl)
theorem Tryz.dkS_fs {r k d:Nat}{q:DkQ r k}{w:World}(h:(Tryz.dkS d q).ok w):FilesOk w 5 q.bs q.FS:=Seg.files_ok.1 (h.2 _ (by simp [Tryz.dkH]))
theorem Tryz.dkS_fk {r k d:Nat}{q:DkQ r k}{w:World}(h:(Tryz.dkS d q).ok w):FilesOk w 5 q.bk q.FK:=Seg.files_ok.1 (h.2 _ (by simp [Tryz.dkH]))
theorem DkQ.rd {r k:Nat}(q:DkQ r k) (n:List UInt8):readN q.S n=bytesF q.FS n:=by rw [DkQ.S,read_ord q.inv.p.dS,readN_nbs]
theorem DkQ.ris {r k:Nat}(q:DkQ r k):risN q.S=true:=ordN_ris q.inv.p.dS
theorem DkQ.fok {r k:Nat}(q:DkQ r k):FOK q.S:=q.inv.p.fs.perm (ordN_perm q.inv.p.dS)
theorem DkQ.len {r k:Nat}(q:DkQ r k):q.S.length=q.FS.length:=by rw [DkQ.S,ordN_len q.inv.p.dS,nbs_len]
theorem DkQ.lenK {r k:Nat}(q:DkQ r k):q.K.length=q.FK.length:=by rw [DkQ.K,ordN_len q.inv.p.dK,nbs_len]
theorem DkQ.sum {r k:Nat}(q:DkQ r k):sumB q.S=sumB (nbs q.FS):=sum_ord q.inv.p.dS
theorem DkQ.used {r k:Nat}(q:DkQ r k):sumB q.S≤r:=by rw [q.sum]; exact q.inv.p.used
theorem DkQ.plen {r k:Nat}(q:DkQ r k):q.P.length=q.W.length:=List.length_map ..
theorem Tryz.qRead_w {r k:Nat}(d:Nat) (q:DkQ r k) (n:List UInt8) (w:World) (h:(Tryz.dkS d q).ok w) :
    Fun Tryz.prog 24 [.pointer (some ⟨d,0,none⟩),str n] w (str (readN q.S n)):=by
  rw [q.rd]
  exact Tryz.DRead_w d r q.bs _ _ q.FS n w (Tryz.dkS_b h) (Tryz.dkS_fs h) fun f hf=>(q.inv.p.fs _ (mem_nbs hf)).1
theorem Tryz.qPending_w {r k:Nat}(d:Nat) (q:DkQ r k) (w:World) (h:(Tryz.dkS d q).ok w) :
    Fun Tryz.prog 31 [.pointer (some ⟨d,0,none⟩)] w (.int .i64 q.P.length):=by
  rw [q.plen]
  exact Tryz.Pending_w d r q.bs _ (svA q.a) q.W.length q.pc w (Tryz.dkS_b h)
theorem Tryz.qRoom_w {r k:Nat}(d:Nat) (q:DkQ r k) (w:World) (h:(Tryz.dkS d q).ok w) :
    Fun Tryz.prog 45 [.pointer (some ⟨d,0,none⟩)] w (.int .i64 ((r:Int) - (sumB q.S:Int))):=by
  have h1:=q.inv.p.hr
  have h2:=q.inv.p.used
  rw [q.sum,← usedF_nbs]
  exact Tryz.Room_w d r q.bs _ _ q.FS w (Tryz.dkS_b h) (Tryz.dkS_fs h) (by omega) (by rw [usedF_nbs]; omega)
theorem Tryz.qFiles_w {r k:Nat}(d:Nat) (q:DkQ r k) (w:World) (h:(Tryz.dkS d q).ok w) :
    Tri Tryz.prog 17 [.pointer (some ⟨d,0,none⟩)] w [] (fun v bx hp=>∃ a c,v=sv a q.S.length c∧bx=[]∧hp=[Seg.row a 57 2 q.S.length c (fl q.S)]):=by
  rw [q.len]
  exact Tryz.DFiles_w d r q.bs q.bk _ q.FS w (Tryz.dkS_b h) (Tryz.dkS_fs h) (by have:=q.inv.lS; omega)
theorem Tryz.qWrite_w {r k:Nat}(d:Nat) (q:DkQ r k) (n:List UInt8) (at0:Int) (s:List UInt8) (w:World) (hown:Own [] [Tryz.dkS d q] w) (hk:k≤900000) (hn:n.length≤9223372036854775807) (hs:s.length≤4611686018427387904) (hat:inK .i64 at0) :
    Tri Tryz.prog 59 [.pointer (some ⟨d,0,none⟩),str n,.int .i64 at0,str s] w (kys [] [Tryz.dkS d q]) (fun v bx hp => v=.int .i64 (wrR r q.S n at0 s)∧bx=[]∧∃ q':DkQ r (k+1),hp=[Tryz.dkS d q']∧q'.K=q.K ∧
      if wrR r q.S n at0 s=0 then q'.S=setN n (wrB (readN q.S n) at0.toNat s) q.S∧q'.P=q.P++[(n,at0.toNat,s)] else q'.S=q.S∧q'.P=q.P):=by
  have hER:=wrE_R q.inv.p n at0 s
  have hwk:=q.inv.wk
  have hl:=q.inv.p.used
  have hr:=q.inv.p.hr
  refine Tri.pk (bm:=Tryz.dkB d q) (br:=[]) (hm:=[Seg.files 5 q.bs q.FS,Seg.row q.a 112 2 q.W.length q.pc (q.W.flatMap Tryz.wrC),Tryz.boxesS q.W]) (hr:=[Seg.files 5 q.bk q.FK]) hown (List.Perm.refl _) (List.Perm.refl _)
    (fun ho=>Tryz.DWrite_w d r q.bs (.map (some q.bk)) q.a q.pc q.FS q.W n at0 s w ho hr (by rw [usedF_nbs]; omega) (fun f hf=>(q.inv.p.fs _ (mem_nbs hf)).2) (by omega) hn hs hat) ?_
  rintro v b1 h1 ⟨rfl,hW⟩
  rw [hER] at hW ⊢
  show ∃ bx' hp',(_=Value.int .i64 (wrR r (ordN (nbs q.FS)) n at0 s)∧_)∧_
  by_cases he:wrR r (ordN (nbs q.FS)) n at0 s=0
  · rw [if_neg (by simp [he])] at hW
    obtain⟨a',pc',g,c,b1,b2,b3,rfl,rfl⟩:=hW
    have hs0:s≠[]:=by
      intro h
      unfold wrR at he
      rw [if_pos (.inr h)] at he
      cases he
    have hel:(q.W++[(⟨n,at0.toNat,s,b1,b2,b3⟩:PendE)]).length=q.W.length+1:=by simp
    refine⟨[],[Tryz.dkS d (⟨putF q.FS ⟨n,wrB (bytesF q.FS n) at0.toNat s,g,c⟩,q.FK,q.W++[⟨n,at0.toNat,s,b1,b2,b3⟩],a',pc',q.bs,q.bk,q.inv.put he⟩:DkQ r (k+1))],⟨rfl,rfl,_,rfl,rfl,?_⟩,fun S w' h=>?_⟩
    · rw [DkQ.S,if_pos he]
      refine⟨?_,by simp [DkQ.P,PendE.wn]⟩
      show ordN (nbs (putF q.FS _))=_
      rw [putN_nbs,read_ord q.inv.p.dS,readN_nbs]
      exact ord_put q.inv.p.dS (wrB_ne hs0)
    · refine WOk.pk ?_
      unfold Tryz.dkB Tryz.dkH
      simp only [hel]
      exact h
  · rw [if_pos he] at hW
    obtain⟨rfl,rfl⟩:=hW
    refine⟨[],[Tryz.dkS d (⟨q.FS,q.FK,q.W,q.a,q.pc,q.bs,q.bk,q.inv.next⟩:DkQ r (k+1))],⟨rfl,rfl,_,rfl,rfl,?_⟩,fun S w' h=>WOk.pk h⟩
    rw [DkQ.S,if_neg he]
    exact⟨rfl,rfl⟩
def cutS (S:FL) (n:List UInt8) (m:Nat):FL:=if (readN S n).length≤m then S else setN n ((readN S n).take m) S
theorem Tryz.qCut_w {r k:Nat}(d:Nat) (q:DkQ r k) (n:List UInt8) (m:Nat) (w:World) (hown:Own [] [Tryz.dkS d q] w) (hW:q.P=[]) (hKS:q.K=q.S) (hm:m≤9223372036854775807) :
    Tri Tryz.prog 90 [.pointer (some ⟨d,0,none⟩),str n,.int .i64 m] w (kys [] [Tryz.dkS d q]) (fun v bx hp=>v=.int .i64 0∧bx=[]∧∃ q':DkQ r k,hp=[Tryz.dkS d q']∧q'.P=[]∧q'.K=q'.S∧q'.S=cutS q.S n m):=by
  have hW0:q.W=[]:=List.map_eq_nil_iff.1 hW
  have hl0:q.W.length=0:=by rw [hW0]; rfl
  refine Tri.pk (bm:=Tryz.dkB d q) (br:=[]) (hm:=[Seg.files 5 q.bs q.FS]) (hr:=[Seg.row q.a 112 2 q.W.length q.pc (q.W.flatMap Tryz.wrC),Tryz.boxesS q.W,Seg.files 5 q.bk q.FK]) hown (List.Perm.refl _) (List.Perm.refl _)
    (fun ho=>Tryz.DCut_w d r q.bs (some q.bk) (svA q.a) q.W.length q.pc q.FS n m w ho q.inv.p.fs (by simp only [inK]; omega) (by omega)) ?_
  rintro v b1 h1 hC
  rw [if_neg (by omega),if_neg (by omega)] at hC
  have hrd:=q.rd n
  unfold cutS
  rw [hrd]
  by_cases hle:(bytesF q.FS n).length≤m
  · rw [if_pos (by omega)] at hC
    obtain⟨rfl,rfl,rfl⟩:=hC
    rw [if_pos hle]
    exact⟨[],[Tryz.dkS d q],⟨rfl,rfl,q,rfl,hW,hKS,rfl⟩,fun S w' h=>WOk.pk h⟩
  · rw [if_neg (by omega)] at hC
    obtain⟨rfl,b2,F2,g,c,rfl,rfl,hp2⟩:=hC
    rw [if_neg hle]
    have hfin:∀ {FS':List FileE}(hi:DInv r k FS' F2 q.W),(nbs F2).Perm (nbs FS')→ordN (nbs FS')=setN n ((bytesF q.FS n).take m) q.S →
        ∃ bx' hp',(True∧bx'=[]∧∃ q':DkQ r k,hp'=[Tryz.dkS d q']∧q'.P=[]∧q'.K=q'.S∧q'.S=setN n ((bytesF q.FS n).take m) q.S) ∧
        ∀ S w',WOk S ([(d,93,dkV r q.bs (.map (some b2)) (.slice (svA q.a) q.W.length q.pc))]++[]) ([Seg.files 5 b2 F2,Seg.files 5 q.bs FS']++[Seg.row q.a 112 2 q.W.length q.pc (q.W.flatMap Tryz.wrC),Tryz.boxesS q.W,Seg.files 5 q.bk q.FK]) w'→WOk S bx' hp' w':=fun {FS'} hi hp2 ho =>
      ⟨[],[Tryz.dkS d (⟨FS',F2,q.W,q.a,q.pc,q.bs,b2,hi⟩:DkQ r k)],⟨trivial,rfl,_,rfl,hW,ord_perm hi.p.dS hp2,ho⟩,fun S w' h=>by
        have h2:WOk S [(d,93,dkV r q.bs (.map (some b2)) (.slice (svA q.a) q.W.length q.pc))] [Seg.files 5 b2 F2,Seg.files 5 q.bs FS',Seg.row q.a 112 2 q.W.length q.pc (q.W.flatMap Tryz.wrC),Tryz.boxesS q.W] w':=h.selK [true] [true,true,true,true]
        exact WOk.pk (h2.permB (List.Perm.refl _) (List.perm_append_comm (l₁:=[Seg.files 5 b2 F2]) (l₂:=[Seg.files 5 q.bs FS',Seg.row q.a 112 2 q.W.length q.pc (q.W.flatMap Tryz.wrC),Tryz.boxesS q.W])))⟩
    by_cases h0:m=0
    · subst h0
      simp only [Int.natCast_zero,if_true] at hp2 ⊢
      refine hfin (by rw [hW0]; exact (q.inv.cut0 hp2).up) hp2 ?_
      rw [delF_nbs q.inv.p.dS]
      exact ord_del q.inv.p.dS n
    · have h0':¬ ((m:Int)=0):=by omega
      simp only [if_neg h0',Int.toNat_natCast] at hp2 ⊢
      refine hfin (by rw [hW0]; exact (q.inv.cutP (by omega) (by omega) hp2).up) hp2 ?_
      rw [putN_nbs]
      exact ord_put q.inv.p.dS (by intro e; have:=congrArg List.length e; rw [List.length_take,List.length_nil] at this; omega)
theorem Tryz.qSync_w {r k:Nat}(d:Nat) (q:DkQ r k) (w:World) (hown:Own [] [Tryz.dkS d q] w) :
    Tri Tryz.prog 52 [.pointer (some ⟨d,0,none⟩)] w (kys [] [Tryz.dkS d q]) (fun v bx hp=>v=.int .i64 0∧bx=[]∧∃ q':DkQ r 0,hp=[Tryz.dkS d q']∧q'.P=[]∧q'.K=q.S∧q'.S=q.S):=by
  refine Tri.pk (bm:=Tryz.dkB d q) (br:=[]) (hm:=[Seg.files 5 q.bs q.FS]) (hr:=[Seg.row q.a 112 2 q.W.length q.pc (q.W.flatMap Tryz.wrC),Tryz.boxesS q.W,Seg.files 5 q.bk q.FK]) hown (List.Perm.refl _) (List.Perm.refl _)
    (fun ho=>Tryz.DSync_w d r q.bs (some q.bk) (svA q.a) q.W.length q.pc q.FS w ho q.inv.p.fs) ?_
  rintro v b1 h1 ⟨rfl,b2,F2,rfl,rfl,hp2⟩
  refine⟨[],[Tryz.dkS d (⟨q.FS,F2,[],none,0,q.bs,b2,q.inv.sync hp2⟩:DkQ r 0)],⟨rfl,rfl,_,rfl,rfl,ord_perm q.inv.p.dS hp2,rfl⟩,fun S w' h=>?_⟩
  have h2:WOk S [(d,93,dkV r q.bs (.map (some b2)) (.slice none 0 0))] [Seg.files 5 b2 F2,Seg.files 5 q.bs q.FS] w':=h.selK [true] [true,true]
  have h3:WOk S [(d,93,dkV r q.bs (.map (some b2)) (.slice none 0 0))] [Tryz.boxesS [],Seg.row none 112 2 0 0 [],Seg.files 5 b2 F2,Seg.files 5 q.bs q.FS] w':=WOk.nilBoxes (h2.rowNil 112 2)
  exact WOk.pk (h3.permB (List.Perm.refl _) (frontsL_perm [0,1,3] _))
theorem Tryz.qCrash_w {r k:Nat}(d:Nat) (q:DkQ r k) (F:Nat) (ca:List Value) (K:Nat→Int) (w:World) (hown:Own [] [Tryz.dkS d q] w) (hk:k≤1000000) (hch:∀ i w',i < q.W.length→Ext (kys [] [Tryz.dkS d q]) w w'→Fun Tryz.prog F (.int .i64 i :: ca) w' (.int .i64 (K i))) :
    Tri Tryz.prog 26 [.pointer (some ⟨d,0,none⟩),.func (.func F) ⟨[]⟩ ⟨ca⟩] w (kys [] [Tryz.dkS d q]) (fun v bx hp=>v=.int .i64 0∧bx=[]∧∃ q':DkQ r 0,hp=[Tryz.dkS d q']∧q'.P=[]∧q'.K=q'.S∧q'.S=crashR q.K q.P K 0):=by
  have hwk:=q.inv.wk
  refine Tri.pk (bm:=Tryz.dkB d q) (br:=[]) (hm:=[Seg.files 5 q.bk q.FK,Seg.row q.a 112 2 q.W.length q.pc (q.W.flatMap Tryz.wrC),Tryz.boxesS q.W]) (hr:=[Seg.files 5 q.bs q.FS]) hown (List.Perm.refl _) ?_
    (fun ho=>Tryz.Crash_w d r q.bs q.bk q.a q.pc q.FK q.W F ca K w ho (fun i w' hi he=>hch i w' hi (he.mono fun x hx _=>?_)) q.inv.p.fk q.inv.p.w (by omega)) ?_
  · exact frontsL_perm [2,2,3] _
  · rw [show kys [] [Tryz.dkS d q]=kys (Tryz.dkB d q) (Tryz.dkH q) from kys_pk ..]
    rcases List.mem_append.1 hx with h | h
    · exact List.mem_append.2 (.inl h)
    · obtain⟨s,hs,hk⟩:=List.mem_flatMap.1 h
      refine List.mem_append.2 (.inr (List.mem_flatMap.2 ⟨s,?_,hk⟩))
      simp only [List.mem_cons,List.not_mem_nil,or_false] at hs
      unfold Tryz.dkH
      rcases hs with rfl | rfl | rfl <;> simp
  · rintro v b1 h1 ⟨rfl,b3,F3,F2,rfl,rfl,e2,e3,-⟩
    have hi:=q.inv.crash K e2 e3
    refine⟨[],[Tryz.dkS d (⟨F3,F2,[],none,0,b3,q.bk,hi⟩:DkQ r 0)],⟨rfl,rfl,_,rfl,rfl,(ord_perm hi.p.dK e3).symm,?_⟩,fun S w' h=>?_⟩
    · show ordN (nbs F3)=_
      rw [ord_perm hi.p.dK e3,e2]
      exact (ord_crash _ _ K 0 q.inv.p.dK).1
    · have h2:WOk S [(d,93,dkV r b3 (.map (some q.bk)) (.slice none 0 0))] [Seg.files 5 b3 F3,Seg.files 5 q.bk F2] w':=h.selK [true] [true,true]
      have h3:WOk S [(d,93,dkV r b3 (.map (some q.bk)) (.slice none 0 0))] [Tryz.boxesS [],Seg.row none 112 2 0 0 [],Seg.files 5 b3 F3,Seg.files 5 q.bk F2] w':=WOk.nilBoxes (h2.rowNil 112 2)
      exact WOk.pk (h3.permB (List.Perm.refl _) (frontsL_perm [0,1,2] _))
def Tryz.OfQ (S:FL) (room:Int) (v:Value) (bx:Bx) (hp:List Seg):Prop :=
  if room < 0∨1048576 < room∨mayS S=false then v=.tuple #[.pointer none,.int .i64 1]∧bx=[]∧hp=[]
  else if room < sumB S then v=.tuple #[.pointer none,.int .i64 6]∧bx=[]∧hp=[]
  else ∃ (d:Nat) (q:DkQ room.toNat 0),v=.tuple #[.pointer (some ⟨d,0,none⟩),.int .i64 0]∧bx=[]∧hp=[Tryz.dkS d q]∧q.S=S∧q.K=S∧q.P=[]
theorem Tryz.OfR.toQ {S:FL}{room:Int}{v:Value}{b1:Bx}{h1:List Seg}(h:Tryz.OfR S room v b1 h1):∃ bx hp,Tryz.OfQ S room v bx hp∧∀ S' w',WOk S' b1 h1 w'→WOk S' bx hp w':=by
  unfold Tryz.OfR at h
  unfold Tryz.OfQ
  by_cases c1:room < 0∨1048576 < room∨mayS S=false
  · simp only [if_pos c1] at h ⊢
    exact⟨b1,h1,h,fun _ _ x=>x⟩
  simp only [if_neg c1] at h ⊢
  by_cases c2:room < sumB S
  · simp only [if_pos c2] at h ⊢
    exact⟨b1,h1,h,fun _ _ x=>x⟩
  simp only [if_neg c2] at h ⊢
  obtain⟨d,bs,bk,FS,FK,rfl,rfl,rfl,e1,e2⟩:=h
  have c0:¬ mayS S=false:=fun e=>c1 (.inr (.inr e))
  obtain⟨m1,m2,m3⟩:=mayS_iff.1 (by simpa using c0)
  have hf:FOK S:=fun p hp=>by
    have h1:=(m2 p hp).2
    have h2:=sumB_mem hp
    exact⟨List.length_pos_iff.2 h1,by omega⟩
  have hlen:FS.length=S.length:=by rw [← e1,nbs_len]
  have hi:DInv room.toNat 0 FS FK []:=DInv.calm (by omega) (by rw [e1]; exact risN_nodup m3) (by rw [e1]; exact e2) (by rw [e1]; exact hf) (by rw [e1]; omega) (by omega)
  refine⟨[],[Tryz.dkS d (⟨FS,FK,[],none,0,bs,bk,hi⟩:DkQ room.toNat 0)],⟨d,_,rfl,rfl,rfl,by rw [DkQ.S,e1]; exact ordN_of_perm m3 (List.Perm.refl _),ordN_of_perm m3 e2,rfl⟩,fun S' w' h=>?_⟩
  have h3:WOk S' [(d,93,dkV room.toNat bs (.map (some bk)) (.slice none 0 0))] [Tryz.boxesS [],Seg.row none 112 2 0 0 [],Seg.files 5 bk FK,Seg.files 5 bs FS] w':=WOk.nilBoxes (h.rowNil 112 2)
  exact WOk.pk (h3.permB (List.Perm.refl _) (frontsL_perm [0,1,3] _))
theorem Tryz.qNew_w (room:Int) (w:World):Tri Tryz.prog 22 [.int .i64 room] w [] (Tryz.OfQ [] room):=(Tryz.dkNew_w room w).re fun _ _ _ h=>h.toQ
end Go.Proofs
