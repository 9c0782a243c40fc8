/-
  Plain laws of layer 19: whatever is done with a log.
-/
import Derived.Test.YtibdpdlghibijaaGreatDoorMP51
import Derived.Test.YtibdpdlghibijaaGreatDoorMP44
import Derived.Test.YtibdpdlghibijaaGreatDoorMP16
import Derived.Test.YtibdpdlghibijaaGreatDoorMP7
import Derived.Test.YtibdpdlghibijaaGreatDoorMP15
import Derived.Test.YtibdpdlghibijaaGreatDoorMP13
namespace Go.Proofs
open Go Go.Eng
set_option maxRecDepth 100000
set_option maxHeartbeats 4000000
attribute [local irreducible] Tri
structure PlI (P n i:Nat) (R0 R:List (List UInt8)) (K S:FL) (W:List (List UInt8 × Nat × List UInt8)):Prop where
  d:LogD P n R0 R K S W
  b:∀ y,y∈R→1≤y.length∧y.length≤300
  l:R.length≤i
  s:S.length≤62 * i
  m:∀ p,p∈S→p.1.length≤9223372036854775807
theorem PlI.nil (P n:Nat):PlI P n 0 [] [] [] [] []:=⟨LogD.calm (LInv.nil P n),fun y hy=>(by cases hy),Nat.le_refl _,Nat.le_refl _,fun p hp=>(by cases hp)⟩
theorem PlI.up {P n i:Nat}{R0 R:List (List UInt8)}{K S:FL}{W:List (List UInt8 × Nat × List UInt8)}(h:PlI P n i R0 R K S W):PlI P n (i+1) R0 R K S W:=⟨h.d,h.b,by have:=h.l; omega,by have:=h.s; omega,h.m⟩
theorem PlI.sync {P n i:Nat}{R0 R:List (List UInt8)}{K S:FL}{W:List (List UInt8 × Nat × List UInt8)}(h:PlI P n i R0 R K S W):PlI P n (i+1) R R S S []:=⟨LogD.calm h.d.inv,h.b,by have:=h.l; omega,by have:=h.s; omega,h.m⟩
theorem apd_has {L:List (List UInt8 × Nat × List UInt8)}{m:List UInt8}(h:apd L m≠[]):∃ e,e∈L∧e.1=m:=by
  by_cases hm:m∈L.map (·.1)
  · obtain⟨e,h1,h2⟩:=List.mem_map.1 hm
    exact⟨e,h1,h2⟩
  · exact absurd (apd_none hm) h
theorem PlI.app {r P n i:Nat}{R0 R:List (List UInt8)}{K S:FL}{W:List (List UInt8 × Nat × List UInt8)}{row:List UInt8}{M:FL}(h:PlI P n i R0 R K S W) (hP:1≤P∧P≤64) (hn:n≤32) (hi:i≤30) (hF:Fil S) (hrow:row.length≤300) (eM:M.length≤60) (hMb:∀ p,p∈M→p.2.length≤6000) (hMn:∀ p,p∈M→p.1.length≤9223372036854775807) (hu:sumB S≤1048576)
    (h0:appE r P n S R row M=0) (hF2:Fil (wrAll r (S,W) (actL P n S R row M)).1) :
    PlI P n (i+1) R0 (R++[row]) K (wrAll r (S,W) (actL P n S R row M)).1 (wrAll r (S,W) (actL P n S R row M)).2:=by
  have hl:=h.l
  have hs:=h.s
  obtain⟨w1,w2,w3,w4,w5,-⟩:=app_ok W hP.1 (by omega) h.d.inv hF.ris h0
  obtain⟨g1,g2,-⟩:=appE_ok h0
  refine⟨h.d.app hP.1 (by omega) hF.ris h0,fun y hy=>?_,by rw [List.length_append,List.length_singleton]; omega,by omega,fun p hp=>?_⟩
  · rcases List.mem_append.1 hy with hy | hy
    · exact h.b y hy
    · rw [List.mem_singleton.1 hy]; exact⟨row_ne g1,hrow⟩
  · have e:=readN_at hF2.nd hp
    have hne:=hF2.ne p hp
    rw [w3] at e
    rcases @readN_mem S p.1 with h4 | h4
    · rw [h4,List.nil_append] at e
      obtain⟨a,ha,hae⟩:=apd_has (by rw [e]; intro e2; rw [e2] at hne; cases hne)
      obtain⟨-,hA⟩:=actL_in (P:=P) (n:=n) (S:=S) (R:=R) (row:=row) (M:=M) (m:=9223372036854775807) (fun x=>by
        rcases @readN_mem S x with h5 | h5
        · rw [h5]; simp
        · have:=sumB_mem h5; simp only at this; omega) (by omega) (fun p hp=>by have:=hMb p hp; omega) hMn (by omega) (seal_may hP hn (by omega) (fun z hz=>by have:=h.b z hz; omega) (by omega)) hn (by have:=Nat.div_le_self R.length P; omega)
      rw [← hae]
      exact (hA a ha).2.2
    · exact h.m (p.1,readN S p.1) h4
theorem doc_open {P n r:Nat}{C C2:FL}{R:List (List UInt8)}(h:Opn P C R C2) (hF:Fil C) (hP:1≤P) (hR:R.length≤1000000) (hx:∀ x,x∈R→x.length≤300) (h0:(hdrS r C2 (wantH P n R)).1=0) :
    readN (filesB P n R) headsB=wantH P n R∧((readN (opF R.length (filesB P n R) C) headsB).length < (wantH P n R).length→wrR r (opF R.length (filesB P n R) C) headsB ((readN (opF R.length (filesB P n R) C) headsB).length:Nat) ((wantH P n R).drop (readN (opF R.length (filesB P n R) C) headsB).length)=0) ∧
    (if (readN (opF R.length (filesB P n R) C) headsB).length < (wantH P n R).length then setN headsB (wrB (readN (opF R.length (filesB P n R) C) headsB) (readN (opF R.length (filesB P n R) C) headsB).length ((wantH P n R).drop (readN (opF R.length (filesB P n R) C) headsB).length)) (opF R.length (filesB P n R) C) else opF R.length (filesB P n R) C)=(hdrS r C2 (wantH P n R)).2.1 ∧
    sumB (opF R.length (filesB P n R) C)≤sumB C:=by
  have hT:=open_doc (n:=n) h hF hP hR hx
  have hH:readN (filesB P n R) headsB=wantH P n R:=by rw [filesB_read hP hR hx,if_pos rfl]
  have hfl:=h.fil.cut headsB (comL (readN C2 headsB) (wantH P n R))
  have hsum:sumB (cutS C2 headsB (comL (readN C2 headsB) (wantH P n R)))≤sumB C:=sum_le hfl.nd hF.nd hfl.ne fun m=>((cutS_pre ..).trans (h.pre m)).length_le
  have h1:=comL_take (readN C2 headsB) (wantH P n R)
  have h2:=comL_le (readN C2 headsB) (wantH P n R)
  rw [← hT] at hsum
  have hrd:(readN (opF R.length (filesB P n R) C) headsB).length=comL (readN C2 headsB) (wantH P n R):=by
    rw [hT,cutS_read,if_pos rfl,List.length_take]; omega
  refine⟨hH,?_,?_,hsum⟩
  · rw [hrd,hT]
    intro hlt
    unfold hdrS at h0
    rw [if_neg (by omega)] at h0
    split at h0
    · rename_i hw; exact hw
    · rename_i hw; exact absurd h0 hw
  · rw [hrd,hT]
    unfold hdrS at h0 ⊢
    by_cases hc:comL (readN C2 headsB) (wantH P n R)=(wantH P n R).length
    · rw [if_pos hc,if_neg (by omega)]
    · rw [if_neg hc] at h0 ⊢
      rw [if_pos (by omega)]
      split at h0
      · rename_i hw; rw [if_pos hw]
      · rename_i hw; exact absurd h0 hw
theorem PlI.crash {r P n i:Nat}{R0 R:List (List UInt8)}{K S C:FL}{W:List (List UInt8 × Nat × List UInt8)}(h:PlI P n i R0 R K S W) (hP:1≤P) (hi:i≤30) (hS:Fil S) (hu:sumB S≤r) (Kf:Nat→Int) (eC:C=crashR K W Kf 0) (hC:Fil C) :
    (opnH r P n C).1=0∧Opn P C (opnR P C) (opnC P C)∧PlI P n (i+1) (opnR P C) (opnR P C) (opnH r P n C).2.1 (opnH r P n C).2.1 []∧(∀ p,p∈C→p.1.length≤9223372036854775807)∧C.length≤4096:=by
  have hl:=h.l
  have hs:=h.s
  have hx:∀ x,x∈R→1≤x.length∧x.length≤65536:=fun x hx=>by have:=h.b x hx; omega
  have hsm:∀ m,(readN C m).length≤(readN S m).length:=fun m=>by rw [eC]; exact h.d.small Kf m
  have hsub:∀ x,x∈C.map (·.1)→x∈S.map (·.1):=fun x hx=>by
    by_cases hn:x∈S.map (·.1)
    · exact hn
    · have h2:=hS.has.2 hn
      have h3:=hsm x
      rw [h2] at h3
      have h4:readN C x=[]:=List.length_eq_zero_iff.1 (by simpa using h3)
      exact absurd hx (hC.has.1 h4)
  have hCl:C.length≤S.length:=by
    have h1:(C.map (·.1)).length≤(S.map (·.1)).length:=nodup_len hC.nd hsub
    simpa using h1
  have hCm:∀ p,p∈C→p.1.length≤9223372036854775807:=fun p hp=>by
    obtain⟨p',h1,h2⟩:=List.mem_map.1 (hsub p.1 (List.mem_map.2 ⟨p,hp,rfl⟩))
    rw [← h2]; exact h.m p' h1
  have hO:=opn_of hP hC (by omega)
  obtain⟨m,e1,e2,e3⟩:=h.d.crash hP (by omega) hx Kf (by rw [← eC]; omega)
  rw [← eC,← hO.all] at e1
  have hpre:opnR P C <+: R:=by rw [e1]; exact List.take_prefix ..
  have hH:(opnH r P n C).1=0:=hdr_ok hO (by omega) hS.nd hu (fun m=>opR_small h.d.inv hpre hsm m)
  obtain⟨f1,f2⟩:=opn_reads hO hH
  have hRl:=hpre.length_le
  have hlen:=hdr_len (r:=r) (want:=wantH P n (opnR P C)) hO.fil
  have hO2:=hO.len
  refine⟨hH,hO,⟨LogD.calm (opn_inv f2),fun y hy=>h.b y (hpre.subset hy),by omega,?_,fun p hp=>?_⟩,hCm,by omega⟩
  · show (hdrS _ _ _).2.1.length≤_
    omega
  · have e:=readN_at f1.nd hp
    have hne:=f1.ne p hp
    have e4:opR P n (opnR P C) C p.1=p.2:=(f2 p.1).symm.trans e
    unfold opR at e4
    by_cases h1:p.1=headsB
    · rw [h1]; decide
    · rw [if_neg h1] at e4
      by_cases h2:(kindB p.1).1=1
      · obtain⟨k,hk,e2,-⟩:=kind1_nm h2
        rw [e2]
        have:=nmB_few (c:=115) hk
        omega
      · rw [if_neg h2] at e4
        split at e4
        · rw [← e4] at hne; cases hne
        · rcases @readN_mem C p.1 with h4 | h4
          · rw [h4] at e4; rw [← e4] at hne; cases hne
          · exact hCm (p.1,readN C p.1) h4
structure PlQ (S0:Base) (P n r i:Nat) where
  x:LgQ r (62 * i)
  lg:Nat
  R0:List (List UInt8)
  ex:List Seg
  aR:Option Addr
  aS:Option Addr
  aK:Option Addr
  aP:Option Addr
  kR:Nat
  kS:Nat
  kK:Nat
  kP:Nat
  inv:PlI P n i R0 x.R x.q.K x.q.S x.q.P
  cR:x.R.length≤kR
  fR:Fz S0 ex aR (x.R.map str)
  fS:Fz S0 ex aS (fl x.q.S)
  fK:Fz S0 ex aK (fl x.q.K)
  fP:Fz S0 ex aP (x.q.P.flatMap wrL)
def PlQ.dk {S0:Base}{P n r i:Nat}(q:PlQ S0 P n r i):List Value:=rdV (.slice q.aS q.x.q.S.length q.kS) (.slice q.aK q.x.q.K.length q.kK) (.slice q.aP q.x.q.P.length q.kP) r
theorem Tryz.qSame_w {r k:Nat}(d:Nat) (q:DkQ r k) (aS aK aP:Option Addr) (cS cK cP:Nat) (w:World) (hok:(Tryz.dkS d q).ok w) (hS:SlOk w aS (fl q.S)) (hK:SlOk w aK (fl q.K)) (hk:k≤1000000) :
    Fun Tryz.prog 38 [.pointer (some ⟨d,0,none⟩),.agg ⟨rdV (.slice aS q.S.length cS) (.slice aK q.K.length cK) (.slice aP q.P.length cP) r⟩] w (.bool true):=by
  have h1:=q.inv.p.hr
  have h2:=q.used
  rw [q.sum] at h2
  have h3:=q.inv.lS
  have h4:=q.inv.lK
  have h5:=q.inv.wk
  rw [q.plen]
  exact Tryz.lSame_w d r q.bs q.bk q.W.length q.pc cS cK cP (svA q.a) aS aK aP q.FS q.FK w (Tryz.dkS_b hok) (Tryz.dkS_fs hok) (Tryz.dkS_fk hok) hS hK (by omega) (by omega) h1 h2 (by omega)
theorem DkQ.fokK {r k:Nat}(q:DkQ r k):FOK q.K:=q.inv.p.fk.perm (ordN_perm q.inv.p.dK)
theorem DkQ.pw {r k:Nat}(q:DkQ r k):∀ e,e∈q.P→e.2.1+e.2.2.length≤1048576:=fun e he=>by
  obtain⟨y,hy,rfl⟩:=List.mem_map.1 he
  exact q.inv.p.w y hy
theorem Tryz.plAct_w {P n r:Nat}{c3:Int}{a:Option Addr}{nl ca d i b2 b9 b10:Nat}{e:AlE}{w:World}(q:PlQ ⟨w,kys [] []⟩ P n r i) (hm:mayCf P n c3 r=true) (hT:Tryz.Tabs w) (hek:AlOk w e) (hi30:i < 30) (h300:e.row.length≤300) (hgr:greatS e.M=false) (h100:e.ks.length≤100)
    (b13:Nat)
    (hz:∀ (q:PlQ ⟨w,kys [] []⟩ P n r (i+1)),At (triCtx Tryz.prog 6 Tryz.f6 w (kys [] []) (fun v bx hp => v=.bool true∧bx=[]∧hp=[])) ⟨2,[0,1,0,1,1,1,1,1,1,1,1,1],[]⟩ [] [(1,.slice a nl ca),(2,.pointer (some ⟨b2,0,none⟩)),(5,.pointer (some ⟨d,0,none⟩)),(7,.pointer (some ⟨q.lg,0,none⟩)),(9,.pointer (some ⟨b9,0,none⟩)),(10,.pointer (some ⟨b10,0,none⟩)),(11,.slice q.aR q.x.R.length q.kR),(12,.int .i64 ((i:Int)+1))]
      [(b10,71,q.dk),(b9,36,keyC),(b2,23,[.int .i64 P,.int .i64 n,.int .i64 c3,.int .i64 r])] [Tryz.lgS q.lg d P n c3 r q.x,Seg.pack [] q.ex] ⟨w,kys [] []⟩) :
    At (triCtx Tryz.prog 6 Tryz.f6 w (kys [] []) (fun v bx hp => v=.bool true∧bx=[]∧hp=[])) ⟨0,[0,1,0,0,1,0,0,1,0,1,1,1,1,1,1,1,1,1],[]⟩ [] [(1,.slice a nl ca),(2,.pointer (some ⟨b2,0,none⟩)),(5,.pointer (some ⟨d,0,none⟩)),(7,.pointer (some ⟨q.lg,0,none⟩)),(9,.pointer (some ⟨b9,0,none⟩)),(10,.pointer (some ⟨b10,0,none⟩)),(11,.slice q.aR q.x.R.length q.kR),(12,.int .i64 (i:Int)),(13,.pointer (some ⟨b13,0,none⟩))]
      [(b13,73,alC e),(b10,71,q.dk),(b9,36,keyC),(b2,23,[.int .i64 P,.int .i64 n,.int .i64 c3,.int .i64 r])] [Tryz.lgS q.lg d P n c3 r q.x,Seg.pack [] q.ex] ⟨w,kys [] []⟩:=by
  have hin:=mayCf_in hm
  have htl:=Tryz.tabs_lt hT
  obtain⟨x,lg,R0,ex,aR,aS,aK,aP,kR,kS,kK,kP,inv,cR,fR,fS,fK,fP⟩:=q
  unfold PlQ.dk rdV alC
  dsimp only
  have hIl:=inv.l
  have hIs:=inv.s
  have hIb:=inv.b
  have hxu:=x.q.used
  have hxr:=x.q.inv.p.hr
  have hwk:=x.q.inv.wk
  have hpl:=x.q.plen
  have hxk:x.q.K.length≤4096:=by rw [x.q.lenK]; exact x.q.inv.lK
  obtain⟨hM60,hM6⟩:=greatS_lens hgr
  have hMb:∀ p,p∈e.M→p.2.length≤6000:=fun p hp=>by have:=sumB_mem hp; omega
  have hk0:=hek.k
  have hfin:∀ (q:PlQ ⟨w,kys [] []⟩ P n r (i+1)) (v:Int),At (triCtx Tryz.prog 6 Tryz.f6 w (kys [] []) (fun v bx hp => v=.bool true∧bx=[]∧hp=[])) ⟨0,[0,1,1,1,0,0,1,0,0,1,0,1,1,1,1,1,1,1,1,1],[]⟩ [] [(1,.slice a nl ca),(2,.pointer (some ⟨b2,0,none⟩)),(5,.pointer (some ⟨d,0,none⟩)),(7,.pointer (some ⟨q.lg,0,none⟩)),(9,.pointer (some ⟨b9,0,none⟩)),(10,.pointer (some ⟨b10,0,none⟩)),(11,.slice q.aR q.x.R.length q.kR),(12,.int .i64 (i:Int)),(14,.int .i64 v),(15,.int .i64 v)]
      [(b10,71,q.dk),(b9,36,keyC),(b2,23,[.int .i64 P,.int .i64 n,.int .i64 c3,.int .i64 r])] [Tryz.lgS q.lg d P n c3 r q.x,Seg.pack [] q.ex] ⟨w,kys [] []⟩:=fun q v=>by
    have hz1:=hz q
    obtain⟨x,lg,R0,ex,aR,aS,aK,aP,kR,kS,kK,kP,inv,cR,fR,fS,fK,fP⟩:=q
    unfold PlQ.dk rdV at hz1
    unfold PlQ.dk rdV
    dsimp only at hz1 ⊢
    have hIl:=inv.l
    have fSm:∀ {bx:Bx}{hp:List Seg},nth hp 0=some (Tryz.lgS lg d P n c3 r x)→nth hp 1=some (Seg.pack [] ex)→CallOb Tryz.prog ⟨w,kys [] []⟩ bx hp 37 [.agg ⟨keyC⟩,.agg ⟨[.int .i64 P,.int .i64 n,.int .i64 c3,.int .i64 r]⟩,.pointer (some ⟨lg,0,none⟩),.slice aR x.R.length kR] (.bool true):=fun {_ _} h h2 w' hw' =>
      Tryz.same19_w lg d P n c3 r x aR kR w' hm (by omega) cR (fun y hy=>(inv.b y hy).2) (hw'.hp _ (nth_mem h)) (fun y hy=>hw'.lt y (mem_kys_hp (nth_mem h) (by simpa [kys] using hy))) (fR.at hw' (nth_mem h2)) (Tryz.tabs_ext0 hT hw'.ext)
    have f9:∀ {bx:Bx}{hp:List Seg},nth hp 0=some (Tryz.lgS lg d P n c3 r x)→nth hp 1=some (Seg.pack [] ex)→CallOb Tryz.prog ⟨w,kys [] []⟩ bx hp 38 [.pointer (some ⟨d,0,none⟩),.agg ⟨[.slice aS x.q.S.length kS,.slice aK x.q.K.length kK,.slice aP x.q.P.length kP,.int .i64 r]⟩] (.bool true):=fun {_ _} h h2 w' hw' =>
      Tryz.qSame_w d x.q aS aK aP kS kK kP w' (Tryz.lgS_d (hw'.hp _ (nth_mem h))) (fS.at hw' (nth_mem h2)) (fK.at hw' (nth_mem h2)) (by omega)
    refine At.go [false,false,false] [hK (.agg { toList:=keyC }),hB 2,hC (.bool true),hB 0,hC (.bool true)] rfl (by and_intros <;> first | exact fSm rfl rfl | exact f9 rfl rfl | exact Tryz.key_ld (i:=1) rfl | (simp; done) | exact oK) ?_
    exact At.weak hz1 sB
  by_cases k5:e.k % 7=5
  · refine At.go [true] [hB 0] rfl (by and_intros <;> first | (simp [k5]; done) | exact hk0.1 | exact oK) ?_
    refine At.step [] rfl rfl rfl rfl rfl trivial (OpOk.callO [] [true] rfl rfl (fun w' hw' ho=>Tryz.lgSyncQ_w lg d P n c3 r x w' ho) ?_)
    rintro _ _ _ ⟨rfl,rfl,y,rfl,g1,g2,g3,g4⟩
    have fSy:∀ {S0:Base}{bx:Bx}{hp:List Seg},CallOb Tryz.prog S0 bx hp 33 [.agg ⟨[.slice aS x.q.S.length kS,.slice aK x.q.K.length kK,.slice aP x.q.P.length kP,.int .i64 r]⟩] (.agg ⟨[.slice aS x.q.S.length kS,.slice aS x.q.S.length kS,.slice none 0 0,.int .i64 r]⟩):=fun {_ _ _} w' _=>Tryz.rSync_w aS aK aP x.q.S.length kS x.q.K.length kK x.q.P.length kP r w'
    refine At.gn 11 [false] [hB 1,hC (.agg ⟨[.slice aS (List.length x.q.S) kS,.slice aS (List.length x.q.S) kS,.slice none 0 0,.int .i64 ↑r]⟩),hB 1,hK (.agg { toList:=keyC }),hB 3] rfl (by and_intros <;> first | exact fSy | exact one_of rfl | exact Tryz.key_ld (i:=2) rfl | (simp; done) | exact oK) ?_
    refine At.keep [false,true,true,true] [true,true] rfl ?_
    obtain⟨z,zs,z1,z2,z3,z4⟩:∃ z:LgQ r (62 * (i+1)),Tryz.lgS lg d P n c3 r z=Tryz.lgS lg d P n c3 r y∧z.R=x.R∧z.q.P=[]∧z.q.K=x.q.S∧z.q.S=x.q.S:=⟨y.lift (Nat.zero_le _),rfl,g1,g2,g3,g4⟩
    have hf:=hfin ⟨z,lg,x.R,ex,aR,aS,aS,none,kR,kS,kS,0,by rw [z1,z2,z3,z4]; exact inv.sync,by rw [z1]; exact cR,by rw [z1]; exact fR,by rw [z4]; exact fS,by rw [z3]; exact fS,by rw [z2]; exact Fz.nil⟩ 0
    unfold PlQ.dk rdV at hf
    dsimp only at hf
    rw [zs,z1,z2,z3,z4] at hf
    exact At.weak hf sB
  by_cases k6:e.k % 7=6
  · have hcr:At (triCtx Tryz.prog 6 Tryz.f6 w (kys [] []) (fun v bx hp => v=.bool true∧bx=[]∧hp=[])) ⟨0,[0,1,0,1,1,1,0,1,0,1,1,0,0,1,0,0,1,0,1,1,1,1,1,1,1,1,1],[]⟩ [] [(1,.slice a nl ca),(2,.pointer (some ⟨b2,0,none⟩)),(5,.pointer (some ⟨d,0,none⟩)),(9,.pointer (some ⟨b9,0,none⟩)),(10,.pointer (some ⟨b10,0,none⟩)),(12,.int .i64 (i:Int)),(13,.pointer (some ⟨b13,0,none⟩))]
      [(b13,73,[.int .u8 e.k,str e.row,.slice e.ma e.M.length e.mc,.slice e.ka e.ks.length e.kc]),(b10,71,[.slice aS x.q.S.length kS,.slice aK x.q.K.length kK,.slice aP x.q.P.length kP,.int .i64 r]),(b9,36,keyC),(b2,23,[.int .i64 P,.int .i64 n,.int .i64 c3,.int .i64 r])] [Tryz.lgS lg d P n c3 r x,Seg.pack [] ex] ⟨w,kys [] []⟩:=by
      refine At.go [] [hB 0] rfl (by and_intros <;> first | (simp; done) | exact oK) ?_
      refine At.step [] rfl rfl rfl rfl rfl trivial (OpOk.call rfl (fun w' _=>Tryz.Keep_w (.slice e.ka e.ks.length e.kc) w' rfl ⟨_,_,_,rfl⟩) ?_)
      rintro _ _ _ ⟨b,rfl,rfl,rfl⟩
      refine At.reshape (fun w' hw'=>keep_log hw') ?_
      refine At.keep [true,true,true,true,true] [false,false,true,true] rfl ?_
      refine At.step [] rfl rfl rfl rfl rfl trivial (OpOk.callO [] [true] rfl rfl (fun w' hw' ho => Tryz.qCrash_w d x.q 60 [.pointer (some ⟨b,0,none⟩)] (keepN e.ks) w' ho (by omega) (fun j w'' hj hx => Tryz.Keep1_w e.ks e.ka e.kc j b w''
        (by rw [hx.block b (hw'.lt b (mem_kys_bx (e:=(b,59,[.slice e.ka e.ks.length e.kc])) (by simp))) (blk_apart hw')]; exact hw'.bx (b,59,[.slice e.ka e.ks.length e.kc]) (by simp))
        (SlOk.ext2 hek.sl hw' rfl (fun k hk=>seg_in hk) hx) hek.kl)) ?_)
      rintro _ _ _ ⟨rfl,rfl,q',rfl,g1,g2,g3⟩
      refine At.keep [false,true,true,true,true] [true,true] rfl ?_
      obtain⟨h1,h2,h3,h4,h5⟩:=inv.crash (r:=r) (by omega) (by omega) x.q.fil hxu (keepN e.ks) g3 q'.fil
      have hKb:=x.q.fokK
      have h30:∀ (ex2:List Seg) (a2:Option Addr) (k2:Nat),Fz ⟨w,kys [] []⟩ ex2 a2 (fl q'.S)→At (triCtx Tryz.prog 6 Tryz.f6 w (kys [] []) (fun v bx hp => v=.bool true∧bx=[]∧hp=[])) ⟨0,[0,1,1,1,0,1,1,1,0,1,0,1,1,0,0,1,0,0,1,0,1,1,1,1,1,1,1,1,1],[]⟩ [] [(1,.slice a nl ca),(2,.pointer (some ⟨b2,0,none⟩)),(5,.pointer (some ⟨d,0,none⟩)),(9,.pointer (some ⟨b9,0,none⟩)),(10,.pointer (some ⟨b10,0,none⟩)),(12,.int .i64 (i:Int))]
          [(b10,71,[.slice a2 q'.S.length k2,.slice a2 q'.S.length k2,.slice none 0 0,.int .i64 r]),(b9,36,keyC),(b2,23,[.int .i64 P,.int .i64 n,.int .i64 c3,.int .i64 r])] [Tryz.dkS d q',Seg.pack [] ex2] ⟨w,kys [] []⟩:=fun ex2 a2 k2 hfz=>by
        refine At.go [] [hB 2] rfl (by and_intros <;> first | (simp; done) | exact oK) ?_
        refine At.step [] rfl rfl rfl rfl rfl trivial (OpOk.callO [] [true] rfl rfl (fun w' hw' ho=>Tryz.lgOpenQ_w d P n c3 r q' w' hm g1 g2 (by omega) h4 h1 (Tryz.tabs_ext0 hT hw'.ext) (WOk.apartT hw' htl (by simp [kys]) [] [true,false]) ho) ?_)
        rintro _ _ _ ⟨lg2,z,rfl,rfl,rfl,z1,z2,z3,z4⟩
        have hxR:=h3.b
        have hlR:=h3.l
        obtain⟨v1,v2,v3,v4⟩:=doc_open (n:=n) (r:=r) h2 q'.fil (by omega) (by omega) (fun y hy=>(hxR y hy).2) h1
        have hqu:=q'.used
        have hOp:=fun (w':World) (u1:SlOk w' a2 (fl q'.S))=>Tryz.rOpen_w P n r q'.S c3 r a2 a2 none k2 q'.S.length k2 0 w' (by omega) (by omega) h5 (fun p hp =>⟨h4 p hp,(q'.fok p hp).2⟩) u1 (opnR P q'.S) h2.all.symm (by omega) (fun y hy=>(hxR y hy).2) _ rfl _ rfl (by omega) (by omega) (by rw [v1]; exact v2)
        rw [v1] at hOp
        refine At.go [] [hK (.agg { toList:=keyC }),hB 2,hB 0] rfl (by and_intros <;> first | exact Tryz.key_ld (i:=1) rfl | (simp; done) | exact oK) ?_
        refine At.step [] rfl rfl rfl rfl rfl trivial (OpOk.call rfl (fun w' hw'=>hOp w' (hfz.at hw' (by simp))) ?_)
        rintro _ _ _ ⟨T2,gR,kR2,a3,k3,hT2,rfl,rfl,rfl⟩
        rw [v3] at hT2
        have hTz:T2=z.q.S:=hT2.trans z4.symm
        subst hTz
        rw [← z4] at h3
        refine At.gn 23 [false,false,false] [hB 0,hK (.agg { toList:=keyC }),hB 2] rfl (by and_intros <;> first | exact one_of rfl | exact Tryz.key_ld (i:=1) rfl | (simp; done) | (simp; done) | exact oK) ?_
        refine At.rowCap 1 rfl fun hcg=>?_
        refine At.keep [true,true,true] [true,true,true,false] rfl ?_
        refine At.reshape (fun w' hw'=>WOk.freeze0 hw') ?_
        refine At.order [] [2] rfl rfl ?_
        refine At.reshape (fun w' hw'=>WOk.freeze hw') ?_
        refine At.order [] [1] rfl rfl ?_
        refine At.reshape (fun w' hw'=>WOk.freeze hw') ?_
        refine At.order [] [1] rfl rfl ?_
        obtain⟨y,zs,y1,y2,y3,y4⟩:∃ y:LgQ r (62 * (i+1)),Tryz.lgS lg2 d P n c3 r y=Tryz.lgS lg2 d P n c3 r z∧y.R=opnR P q'.S∧y.q.P=[]∧y.q.K=z.q.S∧y.q.S=z.q.S:=⟨z.lift (Nat.zero_le _),rfl,z1,z2,z3,rfl⟩
        have hf:=hfin ⟨y,lg2,opnR P q'.S,[Seg.row a3 57 2 z.q.S.length k3 (fl z.q.S),Seg.row gR 9 1 (opnR P q'.S).length kR2 ((opnR P q'.S).map str)],svA gR,svA a3,svA a3,none,kR2,k3,k3,0,by rw [y1,y2,y3,y4]; exact h3,by rw [y1]; exact hcg,by rw [y1]; exact Fz.cons Fz.row,by rw [y4]; exact Fz.row,by rw [y3]; exact Fz.row,by rw [y2]; exact Fz.nil⟩ 0
        unfold PlQ.dk rdV at hf
        dsimp only at hf
        rw [zs,y1,y2,y3,y4] at hf
        exact At.weak hf sB
      refine At.go [] [hB 1,hB 0] rfl (by and_intros <;> first | (simp; done) | exact oK) ?_
      have hCr:=fun (w':World) (u1:SlOk w' aK (fl x.q.K)) (u2:SlOk w' aP (x.q.P.flatMap wrL)) (u3:SlOk w' e.ka (i64s e.ks))=>Tryz.rCrash_w x.q.K x.q.P e.ks aS aK aP e.ka x.q.S.length kS kK kP e.kc r w' (by omega) u1 u2 u3 (by omega) hek.ki (fun p hp=>(hKb p hp).2) x.q.pw
      rw [← g3] at hCr
      refine At.step [] rfl rfl rfl rfl rfl trivial (OpOk.call rfl (fun w' hw'=>hCr w' (fK.at hw' (by simp)) (fP.at hw' (by simp)) (hek.sl.ext hw'.ext (by simp [kys]))) ?_)
      rintro _ _ _ ⟨a2,c2,rfl,rfl,hone⟩
      rcases hone with⟨rfl,rfl,rfl,hx⟩ | ⟨g2,rfl,rfl⟩
      · refine At.gn 3 [] [hB 1,hB 3] rfl (by and_intros <;> first | exact one_of rfl | (simp; done) | exact oK) ?_
        refine At.keep [false,true,true,true] [true,true] rfl ?_
        exact At.weak (h30 ex _ _ (by rw [hx]; exact fK)) sB
      · refine At.gn 3 [] [hB 1,hB 3] rfl (by and_intros <;> first | exact one_of rfl | (simp; done) | exact oK) ?_
        refine At.keep [false,true,true,true] [true,true,true] rfl ?_
        refine At.order [] [2,1] rfl rfl ?_
        refine At.reshape (fun w' hw'=>WOk.freeze hw') ?_
        refine At.order [] [1] rfl rfl ?_
        exact At.weak (h30 _ _ _ Fz.row) sB
    by_cases hp0:x.q.P=[]
    · refine At.gn 30 [false,true,false] [hB 0,hB 1,hB 0] rfl (by and_intros <;> first | (simp [k6]; done) | exact hk0.1 | (rw [hp0]; simp; done) | exact oK) ?_
      exact At.weak hcr sB
    · have hpos:=List.length_pos_iff.2 hp0
      have fOp:∀ {bx:Bx}{hp:List Seg},nth hp 0=some (Tryz.lgS lg d P n c3 r x)→CallOb Tryz.prog ⟨w,kys [] []⟩ bx hp 16 [.pointer (some ⟨d,0,none⟩),.agg ⟨[.int .i64 P,.int .i64 n,.int .i64 c3,.int .i64 r]⟩] (.tuple #[.pointer none,.int .i64 8]):=fun {_ _} h w' hw' =>
        Tryz.lgOpenP_w d P n c3 r x.q w' hm hp0 (Tryz.lgS_d (hw'.hp _ (nth_mem h))) (fun y hy=>hw'.lt y (mem_kys_hp (nth_mem h) (by
          have h1:y∈kys (Tryz.lgBx lg d P n c3 r x) (Tryz.lgHp d P n x):=mem_kys_hp (s:=Tryz.dkS d x.q) (by simp [Tryz.lgHp]) (by simpa [kys] using hy)
          simpa [Tryz.lgS,Seg.pack] using h1)))
      refine At.gn 42 [false,true,true,false] [hB 0,hB 1,hB 3,hC (.tuple ⟨[.pointer none,.int .i64 8]⟩),hB 0] rfl (by and_intros <;> first | (simp [k6]; done) | exact hk0.1 | exact fOp rfl | exact decide_eq_true (by omega) | (simp; done) | exact oK) ?_
      exact At.weak hcr sB
  · refine At.go [false,false] [hB 0,hB 0,hB 0] rfl (by and_intros <;> first | (simp [k5,k6]; done) | exact hk0.1 | exact oK) ?_
    refine At.step [] rfl rfl rfl rfl rfl trivial (OpOk.callO [] [true] rfl rfl (fun w' hw' ho=>Tryz.lgAppendQ_w lg d P n c3 r x e.row e.M e.ma e.mc w' hm (by omega) (fun y hy=>by have:=hIb y hy; omega) hek.n (by omega) (fun p hp=>by have:=hMb p hp; omega) (fun p hp=>(hek.mn p hp).1) (hek.ms.ext hw'.ext (by simp [kys])) (by omega) (WOk.apartT hw' hek.ms.ltR (by simp [kys]) [] [true,false]) (Tryz.tabs_ext0 hT hw'.ext) (WOk.apartT hw' htl (by simp [kys]) [] [true,false]) ho) ?_)
    rintro _ _ _ ⟨rfl,rfl,y,rfl,hKe,hif⟩
    have hAp:=fun (w':World) (u1:SlOk w' aR (x.R.map str)) (u2:SlOk w' aS (fl x.q.S)) (u3:SlOk w' aP (x.q.P.flatMap wrL)) (u4:SlOk w' e.ma (fl e.M))=>Tryz.rAppend_w P n r c3 r x.R x.q.S x.q.P e.row e.M aR aS aK aP e.ma kR x.q.K.length kK kS kP e.mc w' (by omega) (by omega) (by omega) (fun y hy=>(hIb y hy).2) h300 (by omega) hxu hxr (by omega) hM60 hMb (fun p hp=>(hek.mn p hp).1) u1 u2 u3 u4 inv.d.inv.hd x.q.ris
    refine At.go [] [hK (.agg { toList:=keyC }),hB 3,hB 1,hB 0,hB 0] rfl (by and_intros <;> first | exact Tryz.key_ld (i:=2) rfl | exact oK) ?_
    refine At.step [] rfl rfl rfl rfl rfl trivial (OpOk.call rfl (fun w' hw'=>hAp w' (fR.at hw' (by simp)) (fS.at hw' (by simp)) (fP.at hw' (by simp)) (hek.ms.ext hw'.ext (by simp [kys]))) ?_)
    intro v bx' hp' hQ
    unfold Tryz.rApQ at hQ
    obtain⟨rfl,hif2⟩:=hQ
    by_cases h0:appE r P n x.q.S x.R e.row e.M=0
    · rw [if_pos h0] at hif hif2
      obtain⟨e1,e2⟩:=hif
      obtain⟨g,k0,a1,k1,a2,k2,rfl,rfl⟩:=hif2
      have e3:(wrAll r (x.q.S,x.q.P) (actL P n x.q.S x.R e.row e.M)).1=y.q.S:=(congrArg Prod.fst e2).symm
      have e4:(wrAll r (x.q.S,x.q.P) (actL P n x.q.S x.R e.row e.M)).2=y.q.P:=(congrArg Prod.snd e2).symm
      have inv2:=inv.app (by omega) (by omega) (by omega) x.q.fil h300 hM60 hMb (fun p hp=>(hek.mn p hp).1) (by omega) h0 (by rw [e3]; exact y.q.fil)
      rw [e3,e4,← e1,← hKe] at inv2
      rw [h0,e3,e4,← e1]
      refine At.gn 10 [false] [hB 1,hK (.agg { toList:=keyC }),hB 3] rfl (by and_intros <;> first | exact one_of rfl | exact Tryz.key_ld (i:=2) rfl | (simp; done) | exact oK) ?_
      refine At.rowCap 2 rfl fun hcg=>?_
      refine At.keep [false,true,true,true] [true,true,true,true,true] rfl ?_
      refine At.order [] [4,3] rfl rfl ?_
      refine At.reshape (fun w' hw'=>WOk.freeze hw') ?_
      refine At.order [] [2] rfl rfl ?_
      refine At.reshape (fun w' hw'=>WOk.freeze hw') ?_
      refine At.order [] [1] rfl rfl ?_
      refine At.reshape (fun w' hw'=>WOk.freeze hw') ?_
      refine At.order [] [1] rfl rfl ?_
      have hf:=hfin ⟨y,lg,R0,Seg.row a2 118 3 y.q.P.length k2 (y.q.P.flatMap wrL) :: Seg.row a1 57 2 y.q.S.length k1 (fl y.q.S) :: Seg.row g 9 1 y.R.length k0 (y.R.map str) :: ex,svA g,svA a1,aK,svA a2,k0,k1,kK,k2,inv2,hcg,Fz.cons (Fz.cons Fz.row),Fz.cons Fz.row,by rw [hKe]; exact Fz.cons (Fz.cons (Fz.cons fK)),Fz.row⟩ 0
      unfold PlQ.dk rdV at hf
      dsimp only at hf
      rw [hKe] at hf
      exact At.weak hf sB
    · rw [if_neg h0] at hif hif2
      obtain⟨e1,e2,e3⟩:=hif
      obtain⟨rfl,rfl⟩:=hif2
      refine At.gn 10 [false] [hB 1,hK (.agg { toList:=keyC }),hB 3] rfl (by and_intros <;> first | exact one_of rfl | exact Tryz.key_ld (i:=2) rfl | (simp; done) | exact oK) ?_
      refine At.keep [false,true,true,true] [true,true] rfl ?_
      have hf:=hfin ⟨y,lg,R0,ex,aR,aS,aK,aP,kR,kS,kK,kP,by rw [e1,e2,e3,hKe]; exact inv.up,by rw [e1]; exact cR,by rw [e1]; exact fR,by rw [e2]; exact fS,by rw [hKe]; exact fK,by rw [e3]; exact fP⟩ (appE r P n x.q.S x.R e.row e.M)
      unfold PlQ.dk rdV at hf
      dsimp only at hf
      rw [e1,e2,e3,hKe] at hf
      exact At.weak hf sB
theorem Tryz.logPlays_w (L:List AlE) (c1 n c3 c4:Int) (a:Option Addr) (ca:Nat) (w:World) (hl:L.length≤9223372036854775807) (hr:SlOk w a (L.flatMap alC)) (hok:∀ e,e∈L→AlOk w e) (hT:Tryz.Tabs w) :
    Fun Tryz.prog 6 [.agg ⟨[.int .i64 c1,.int .i64 n,.int .i64 c3,.int .i64 c4]⟩,.slice a L.length ca] w (.bool true):=by
  have htl:=Tryz.tabs_lt hT
  have fA:∀ {bx:Bx}{hp:List Seg},CallOb Tryz.prog ⟨w,kys [] []⟩ bx hp 7 [] (.bool true):=fun {_ _} w' hw'=>Tryz.alive19_w w' (Tryz.tabs_ext0 hT hw'.ext)
  have fG:∀ {bx:Bx}{hp:List Seg},CallOb Tryz.prog ⟨w,kys [] []⟩ bx hp 32 [.slice a L.length ca] (.bool (greatL L)):=fun {_ _} w' hw'=>Tryz.great19_w L a ca w' hl (hr.ext hw'.ext (by simp [kys])) (fun e he=>by
    have h:=hok e he
    exact⟨h.k,h.n,h.ml,h.ms.ext hw'.ext (by simp [kys]),h.mn,h.sl.ext hw'.ext (by simp [kys]),h.kl,h.ki⟩)
  have fY:∀ {S:Base}{bx:Bx}{hp:List Seg},CallOb Tryz.prog S bx hp 10 [.agg ⟨[.int .i64 c1,.int .i64 n,.int .i64 c3,.int .i64 c4]⟩] (.bool (mayCf c1 n c3 c4)):=fun {_ _ _} w' _=>Tryz.r19May_w c1 n c3 c4 w'
  cases hg:greatL L with
  | true =>
    rw [hg] at fG
    refine Tri.enter (bx:=[]) (hp:=[]) Tryz.func6 rfl (by kernel_rfl) rfl (Own.nil w) ?_
    refine At.go [] [] rfl (by and_intros <;> first | exact fA | exact fG | (simp; done) | exact oK) ?_
    refine At.bo fun b2 hb2=>?_
    refine At.go [false,true,true] [hC (.bool true),hC (.bool true)] rfl (by and_intros <;> first | exact fA | exact fG | (simp; done) | exact oK) ?_
    refine At.rt [] [] [] Tryz.func6 ?_
    exact⟨rfl,rfl,rfl⟩
  | false =>
  rw [hg] at fG
  obtain⟨h30,hea⟩:=greatL_no hg
  cases hmay:mayCf c1 n c3 c4 with
  | false =>
    rw [hmay] at fY
    refine Tri.enter (bx:=[]) (hp:=[]) Tryz.func6 rfl (by kernel_rfl) rfl (Own.nil w) ?_
    refine At.go [] [] rfl (by and_intros <;> first | exact fA | exact fG | exact fY | (simp; done) | exact oK) ?_
    refine At.bo fun b2 hb2=>?_
    refine At.go [false,false,true] [hC (.bool true),hC (.bool false),hB 0,hC (.bool false)] rfl (by and_intros <;> first | exact fA | exact fG | exact fY | (simp; done) | exact oK) ?_
    refine At.rt [] [] [] Tryz.func6 ?_
    exact⟨rfl,rfl,rfl⟩
  | true =>
  rw [hmay] at fY
  have hin:=mayCf_in hmay
  obtain⟨n,rfl⟩:∃ N:Nat,n=N:=⟨n.toNat,by omega⟩
  obtain⟨P,rfl⟩:∃ P:Nat,c1=P:=⟨c1.toNat,by omega⟩
  obtain⟨r,rfl⟩:∃ r:Nat,c4=r:=⟨c4.toNat,by omega⟩
  refine Tri.enter (bx:=[]) (hp:=[]) Tryz.func6 rfl (by kernel_rfl) rfl (Own.nil w) ?_
  refine At.go [] [] rfl (by and_intros <;> first | exact fA | exact fG | exact fY | (simp; done) | exact oK) ?_
  refine At.bo fun b2 hb2=>?_
  refine At.go [false,false,false] [hC (.bool true),hC (.bool false),hB 0,hC (.bool true),hB 0] rfl (by and_intros <;> first | exact fA | exact fG | exact fY | (simp; done) | exact oK) ?_
  refine At.step [] rfl rfl rfl rfl rfl trivial (OpOk.call rfl (fun w' _=>Tryz.qNew_w r w') ?_)
  intro v bx' hp' hQ
  unfold Tryz.OfQ at hQ
  rw [if_neg (by rintro (h | h | h); omega; omega; cases h),if_neg (by show ¬ (r:Int) < (0:Nat); omega)] at hQ
  replace hQ:∃ (d:Nat) (q:DkQ r 0),v=.tuple #[.pointer (some ⟨d,0,none⟩),.int .i64 0]∧bx'=[]∧hp'=[Tryz.dkS d q]∧q.S=[]∧q.K=[]∧q.P=[]:=hQ
  obtain⟨d,q,rfl,rfl,rfl,q1,q2,q3⟩:=hQ
  have hR0:=opnH_none r P n (by omega)
  refine At.go [] [hB 0] rfl (by and_intros <;> first | (simp; done) | exact oK) ?_
  refine At.step [] rfl rfl rfl rfl rfl trivial (OpOk.callO [] [true] rfl rfl (fun w' hw' ho=>Tryz.lgOpenQ_w d P n c3 r q w' hmay q3 (q2.trans q1.symm) (by omega) (fun p hp=>by rw [q1] at hp; cases hp) (by rw [q1,hR0.2]) (Tryz.tabs_ext0 hT hw'.ext) (WOk.apartT hw' htl (by simp [kys]) [] [true]) ho) ?_)
  rintro _ _ _ ⟨lg,x,rfl,rfl,rfl,x1,x2,x3,x4⟩
  rw [q1,hR0.1] at x1
  rw [q1,hR0.2] at x4
  have x5:x.q.K=[]:=by rw [x3,x4]
  have hI0:PlI P n 0 [] x.R x.q.K x.q.S x.q.P:=by rw [x1,x2,x5,x4]; exact PlI.nil P n
  have fKy:∀ {S:Base}{bx:Bx}{hp:List Seg},CallOb Tryz.prog S bx hp 12 [] (.agg ⟨keyC⟩):=fun {_ _ _} w' _=>Tryz.makeKeyC_w w'
  refine At.gn 13 [false] [hC (.agg { toList:=keyC })] rfl (by and_intros <;> first | (simp; done) | exact oK) ?_
  refine At.go [] [hC (.agg ⟨keyC⟩)] rfl (by and_intros <;> first | exact fKy | exact oK) ?_
  refine At.al fun b9 hb9=>?_
  refine At.step0 [] rfl rfl rfl rfl trivial (OpOk.storeBlk 0 rfl rfl rfl Tryz.key_cells key_ones rfl (by rw [keyC_len]; decide) ?_)
  rw [key_put rfl]
  refine At.go [] [hB 1] rfl (by and_intros <;> first | exact one_of rfl | (simp; done) | exact oK) ?_
  refine At.al fun b10 hb10=>?_
  refine At.go [] [hB 0] rfl (by and_intros <;> first | exact one_of rfl | (simp; done) | exact oK) ?_
  refine At.reshape (fun w' hw'=>WOk.freeze0 hw') ?_
  refine At.order [] [1] rfl rfl ?_
  refine At.loop (env0:=[(1,.slice a L.length ca),(2,.pointer (some ⟨b2,0,none⟩)),(5,.pointer (some ⟨d,0,none⟩)),(7,.pointer (some ⟨lg,0,none⟩)),(9,.pointer (some ⟨b9,0,none⟩)),(10,.pointer (some ⟨b10,0,none⟩)),(11,.slice none 0 0),(12,.int .i64 0)]) (fun m_ env bx hp => ∃ (i:Nat) (q:PlQ ⟨w,kys [] []⟩ P n r i) (lR lS lK lP:Nat),m_=L.length - i∧(i≤L.length)∧(q.x.R.length=lR)∧(q.x.q.S.length=lS)∧(q.x.q.K.length=lK)∧(q.x.q.P.length=lP)∧env=[(1,.slice a L.length ca),(2,.pointer (some ⟨b2,0,none⟩)),(5,.pointer (some ⟨d,0,none⟩)),(7,.pointer (some ⟨q.lg,0,none⟩)),(9,.pointer (some ⟨b9,0,none⟩)),(10,.pointer (some ⟨b10,0,none⟩)),(11,.slice q.aR lR q.kR),(12,.int .i64 (i:Int))]∧bx=[(b10,71,[.slice q.aS lS q.kS,.slice q.aK lK q.kK,.slice q.aP lP q.kP,.int .i64 r]),(b9,36,keyC),(b2,23,[.int .i64 ↑P,.int .i64 ↑n,.int .i64 c3,.int .i64 ↑r])]∧hp=[Tryz.lgS q.lg d P n c3 r q.x,Seg.pack [] q.ex]) rfl
    ⟨0,(⟨x,lg,[],[],none,none,none,none,0,0,0,0,hI0,by rw [x1]; exact Nat.le_refl _,by rw [x1]; exact Fz.nil,by rw [x4]; exact Fz.nil,by rw [x5]; exact Fz.nil,by rw [x2]; exact Fz.nil⟩:PlQ ⟨w,kys [] []⟩ P n r 0),0,0,0,0,rfl,(Nat.zero_le _),(by show x.R.length=0; rw [x1]; rfl),(by show x.q.S.length=0; rw [x4]; rfl),(by show x.q.K.length=0; rw [x5]; rfl),(by show x.q.P.length=0; rw [x2]; rfl),rfl,rfl,rfl⟩ sB ?_
  rintro m_ env bx hp ⟨i,q,lR,lS,lK,lP,rfl,hi,eR,eS,eK,eP,rfl,rfl,rfl⟩ ih
  subst eR eS eK eP
  by_cases hlt:i < L.length
  · obtain⟨e,he⟩:∃ e,L[i]?=some e:=⟨_,List.getElem?_eq_getElem hlt⟩
    have hem:=List.mem_of_getElem? he
    obtain⟨h300,hgr,h100⟩:=hea e hem
    obtain⟨g0,o,rfl,hc⟩:=hr.get (by intro h; have:=flat_get (f:=alC) (sz:=4) (fun _ _=>rfl) he 0 _ rfl; rw [h] at this; simp at this)
    have rE:∀ {bx:Bx}{hp:List Seg},RdW ⟨w,kys [] []⟩ bx hp g0 (o+(i:Int).toNat * 4) [.int .u8 e.k,str e.row,.slice e.ma e.M.length e.mc,.slice e.ka e.ks.length e.kc]:=fun {_ _}=>RdW.base (by simp [kys]) fun j u hu=>by
      rw [Int.toNat_natCast,Nat.add_assoc]; exact hc _ u (flat_get (f:=alC) (sz:=4) (fun _ _=>rfl) he j u hu)
    refine At.go [true] [hR [.int .u8 e.k,.string { data:=e.row.toArray },.slice e.ma (List.length e.M) e.mc,.slice e.ka e.ks.length e.kc]] rfl (by and_intros <;> first | exact decide_eq_true (by omega) | exact rE | exact one_of rfl | (simp; done) | exact oK) ?_
    refine At.al fun b13 hb13=>?_
    refine At.gn 3 [] [hB 0,hB 0] rfl (by and_intros <;> first | exact decide_eq_true (by omega) | exact rE | exact one_of rfl | (simp; done) | exact oK) ?_
    refine At.weak (Tryz.plAct_w (a:=some ⟨g0,o,none⟩) (nl:=L.length) (ca:=ca) (d:=d) (b2:=b2) (b9:=b9) (b10:=b10) q hmay hT (hok e hem) (by omega) h300 hgr h100 b13 (fun q'=>?_)) sB
    unfold PlQ.dk rdV
    exact At.weak (ih _ _ _ _ (by omega) ⟨i+1,q',q'.x.R.length,q'.x.q.S.length,q'.x.q.K.length,q'.x.q.P.length,rfl,by omega,rfl,rfl,rfl,rfl,rfl,rfl,rfl⟩) sB
  · obtain rfl:i=L.length:=by omega
    have f1:∀ {S:Base}{bx:Bx}{hp:List Seg},CallOb Tryz.prog S bx hp 23 [.pointer none,.string ⟨#[97]⟩,.slice none 0 0] (.int .i64 1):=fun {_ _ _} w' _=>Tryz.lgNilApp_w [97] w'
    have f2:∀ {S:Base}{bx:Bx}{hp:List Seg},CallOb Tryz.prog S bx hp 25 [.pointer none] (.int .i64 1):=fun {_ _ _} w' _=>Tryz.lgNilSync_w w'
    have f3:∀ {S:Base}{bx:Bx}{hp:List Seg},CallOb Tryz.prog S bx hp 19 [.pointer none] (.slice none 0 0):=fun {_ _ _} w' _=>Tryz.lgNilRows_w w'
    have f4:∀ {S:Base}{bx:Bx}{hp:List Seg},CallOb Tryz.prog S bx hp 28 [.pointer none] (.int .i64 0):=fun {_ _ _} w' _=>Tryz.lgNilLen_w w'
    have f5:∀ {S:Base}{bx:Bx}{hp:List Seg},CallOb Tryz.prog S bx hp 39 [.pointer none] (.slice none 0 0):=fun {_ _ _} w' _=>Tryz.lgNilHeads_w w'
    have f6:∀ {S:Base}{bx:Bx}{hp:List Seg},CallOb Tryz.prog S bx hp 21 [.pointer none] (.string ⟨#[]⟩):=fun {_ _ _} w' _=>Tryz.lgNilHash_w w'
    refine At.go [false,true,true,true,true,true] [hC (.int .i64 1),hC (.int .i64 1),hC (.slice none 0 0),hC (.int .i64 0),hC (.slice none 0 0),hC (.string { data:=#[] })] rfl (by and_intros <;> first | exact decide_eq_false (by omega) | exact f1 | exact f2 | exact f3 | exact f4 | exact f5 | exact f6 | (simp; done) | exact oK) ?_
    refine At.rt [] [] [] Tryz.func6 ?_
    exact⟨by first | rfl | simp [tupV],rfl,rfl⟩
end Go.Proofs
namespace Go.Proofs
open Go Go.Eng
set_option maxRecDepth 100000
set_option maxHeartbeats 4000000
attribute [local irreducible] Tri
open Go.WideShapes
section
variable {H:Type}{enc:TypeId × Value→H}{w:World}{base:Nat}{sp:Nat→Bool}{held:Bool}
theorem Tryz.al_c {n:Nat}{cs:List Value}{y:DataW H × List MemPlace}(h:DataW.trod enc Tryz.prog w base sp held n 73 cs=some y):∃ e:AlE,cs=alC e∧AlOk w e:=by
  obtain⟨hl,n0,y0,t0⟩:=open_fld h 0 5 0 1 (by kernel_rfl)
  obtain⟨-,n1,y1,t1⟩:=open_fld h 1 9 1 1 (by kernel_rfl)
  obtain⟨-,n2,y2,t2⟩:=open_fld h 2 39 2 1 (by kernel_rfl)
  obtain⟨-,n3,y3,t3⟩:=open_fld h 3 59 3 1 (by kernel_rfl)
  have hc:cs.length=4:=by rw [hl]; kernel_rfl
  obtain⟨k,e0,hk⟩:=open_u8_c (by kernel_rfl) t0
  obtain⟨l1,e1,h1⟩:=open_str_c (by kernel_rfl) t1
  obtain⟨ma,M,mc,e2,h2,h3,h4⟩:=open_list (f:=flC) (Pr:=fun p:List UInt8 × List UInt8=>p.1.length≤9223372036854775807∧p.2.length≤9223372036854775807) (e:=57) (by kernel_rfl) (by decide +kernel) (fun n r y hy=>Tryz.file21_c hy) t2
  obtain⟨a,l,c,e3,h5,h6,h7⟩:=open_i64s_c (e:=3) (by kernel_rfl) (by kernel_rfl) (by kernel_rfl) t3
  match cs,hc with
  | [v0,v1,v2,v3],_ =>
    simp at e0 e1 e2 e3
    subst e0; subst e1; subst e2; subst e3
    exact⟨⟨k,l1,ma,mc,M,a,c,l⟩,rfl,⟨hk,h1,h4,h2,h3,h5,h7,h6⟩⟩
end
end Go.Proofs
