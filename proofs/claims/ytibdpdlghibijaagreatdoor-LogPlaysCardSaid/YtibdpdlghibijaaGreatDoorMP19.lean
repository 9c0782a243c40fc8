/-
  Engine, part 56: a known block that is copied into.
-/
import Derived.Test.YtibdpdlghibijaaGreatDoorMP12
import Derived.Test.YtibdpdlghibijaaGreatDoorMP11
import Derived.Test.YtibdpdlghibijaaGreatDoorMP17
import Derived.Test.YtibdpdlghibijaaGreatDoorMP16
namespace Go.Eng
open Go
theorem SrcOk.part {P:Program}{w:World}{b o n k cap:Nat}{t:TypeId}{cs:List Value}(h:w.heap[b]?=some (.cells cs.toArray t (0,0))) (hk:o+n≤cs.length) (hn:n=k):SrcOk P w (.slice (some ⟨b,o,none⟩) k cap) ((cs.drop o).take n):=by
  subst hn
  have hl:((cs.drop o).take n).length=n:=by rw [List.length_take,List.length_drop]; omega
  have hs:SlOk w (some ⟨b,0,none⟩) cs:=SlOk.blk h
  have h2:SlOk w (some ⟨b,o,none⟩) ((cs.drop o).take n):=by
    by_cases h0:n=0
    · subst h0; rw [List.take_zero]; exact SlOk.nil w _
    · obtain⟨b',o',hb,hc⟩:=hs.get (by intro e; rw [e] at hk; simp at hk; omega)
      cases hb
      refine .inr ⟨b,o,rfl,fun j u hu=>?_⟩
      have hj:j < n:=by have:=(List.getElem?_eq_some_iff.1 hu).1; omega
      rw [List.getElem?_take_of_lt hj,List.getElem?_drop] at hu
      have:=hc (o+j) u hu
      rwa [Nat.zero_add] at this
  have:=SrcOk.sl (P:=P) cap h2
  rwa [hl] at this
theorem OpOk.copyBox {C:Ctx}{env:Env}{bx:Bx}{hp:List Seg}{S:Base}{o:Oper}{K:Value→Bx→List Seg→Prop}{dT sT e t:TypeId}{b off dl dc by_ c m:Nat}{src:Value}{u cs:List Value}(j:Nat)
    (ho:bltOf env o.op=some (.copy,[dT,sT],[.slice (some ⟨b,off,none⟩) dl dc,src])) (ht:elT C.P dT=some e) (hi:infoL C.P e=some (1,by_,c)) (hj:nth bx j=some (b,t,cs))
    (hsrc:∀ w,WOk S bx hp w→SrcOk C.P w src u) (hone:∀ v,v∈u→v.oneCell'=true) (hm:min u.length dl=m) (hl:off+m≤cs.length)
    (hk:K (.int .i64 m) (setL bx j (b,t,putL cs off (u.take m))) hp):OpOk C o env bx hp S K:=by
  intro w hw ρ hρ
  obtain⟨cs',ty,hex⟩:=bltOf_ok (P:=C.P) (w:=w) ho hρ
  obtain⟨i,z,hi1,-,hs1,-,-⟩:=infoL_ok hi
  have hblk:w.heap[b]?=some (.cells cs.toArray t (0,0)):=hw.bx _ (nth_mem hj)
  have hlm:(u.take m).length=m:=by rw [List.length_take]; omega
  have hst:=run_storeCells_fr (P:=C.P) b off t (0,0) (u.take m) 0 cs.toArray w hblk (.inl rfl) (by rw [hlm]; simp; omega) (fun v hv=>hone v (List.mem_of_mem_take hv))
  simp only [Nat.add_zero] at hst
  have hput:cs.toArray.toList.take off++u.take m++cs.toArray.toList.drop (off+(u.take m).length)=putL cs off (u.take m):=(putL_eq (u.take m) cs off (by rw [hlm]; exact hl)).symm
  rw [hput] at hst
  obtain⟨s1,s2⟩:=hsrc w hw
  have s3:=s2 m (by omega)
  refine .inl ⟨.int .i64 m,_,_,hp,.inl ?_,hw.setBlk hj (w':=w.setRow b (putL cs off (u.take m)).toArray) rfl rfl rfl (by simp) (setRow_heap w b _ _ t (0,0) hblk) (fun k hk=>setRow_other w b k _ hk),hk⟩
  rw [hex]
  simp only [builtin,Builtin.copy_,List.getElem?_toArray,List.getElem?_cons_zero,List.getElem?_cons_succ,Sem.run_bind,run_underlying (elT_ok ht),Result.andThen,s1,Nat.min_def,sizeOf,typeInfo]
  simp only [run_program,hi1,Sem.run_pure,hs1]
  have hm2:(if u.length≤dl then u.length else dl)=m:=by rw [← hm,Nat.min_def]
  rw [hm2,s3]
  simp only [hst]
  rfl
theorem AtD.lxw {C:Ctx}{p:List Nat}{df:List Deferred}{env env1:Env}{bx bx1:Bx}{hp:List Seg}{S:Base}{ds1:List Bool}{hs1':List Hint}{ob1:Prop}{listed:Array Bool}(is:List Nat) (g:Nat) (ds:List Bool) (hs:List Hint) (h1:runOps C.P C.nt false hp S (opsOf C.body p).toList is [] ds hs env bx True=⟨[],ds1,hs1',env1,bx1,ob1⟩) (ho1:ob1)
    (hk:AtD C p df g (setAll is listed) env1 bx hp S) (hok:LxOk C.P C.body p is listed (setAll is listed):=by exact⟨by kernel_rfl,by kernel_rfl,rfl,by kernel_rfl,by kernel_rfl⟩) (hm1:mild hs=true:=by rfl)
    (h0:g=0→Region.ready .any (opsOf C.body p) (setAll is listed)=[]:=by first | exact fun h=>absurd h (Nat.succ_ne_zero _) | exact fun _=>by kernel_rfl):AtD C p df (g+is.length) listed env bx hp S:=by
  intro w hw tm hsz hkn
  have base:∀ tm,tm.size=C.nt→Knows env1 tm→qTo C.P .any (opsOf C.body p) (WOk S bx hp) (Qf C p df) (qB is listed) g (setAll is listed) ⟨tm,df⟩:=by
    intro tm hsz hkn
    cases g with
    | zero => exact⟨h0 rfl,fun w hw => hk w hw tm hsz hkn⟩
    | succ g =>
      refine⟨fun w hw=>hk w hw tm hsz hkn,fun j hj hq=>?_⟩
      have h3:=List.all_eq_true.1 hok.rest j hj
      rw [hq] at h3; cases h3
  have hr:=runOps_qI (df:=df) (Q:=qTo C.P .any (opsOf C.body p) (WOk S bx hp) (Qf C p df) (qB is listed) g (setAll is listed)) is [] ds hs env bx True _ hok.noStore h1 rfl hm1 ho1 base
  have hq:=hr.2.2 tm hsz hkn
  have H:=qTo_lx (P:=C.P) (md:=.any) (Q':=Qf C p df) (W:=WOk S bx hp) (q:=is) (l0:=listed) (g:=g) (lst:=setAll is listed) hok.sel is listed ⟨tm,df⟩ (fun j hj=>by unfold qB; rw [hj]; rfl) (fun k hk=>by
    unfold memB; exact List.any_eq_true.2 ⟨k,hk,by simp⟩) hok.mark hok.chk hq
  exact qTo_wp H hw
theorem OpOk.sliceLo {C:Ctx}{env:Env}{bx:Bx}{hp:List Seg}{S:Base}{o:Oper}{K:Value→Bx→List Seg→Prop}{t e:TypeId}{sz n b off:Nat}{x i:Operand}{kk:IntKind}(l:Nat)
    (ho:o.op=.slice t x (some i) none none) (hx:Env.ev env x=some (.pointer (some ⟨b,off,none⟩))) (hi:Env.ev env i=some (.int kk (l:Int))) (ht:C.P.underlying t=some (.array n e)) (hs:szT C.P e=some sz) (hl:l < n) (hK:K (.slice (some ⟨b,off+l * sz,none⟩) (n - l) (n - l)) bx hp):OpOk C o env bx hp S K:=by
  intro w hw ρ hρ
  refine .inl ⟨.slice (some ⟨b,off+l * sz,none⟩) (n - l) (n - l),w,bx,hp,.inl ?_,hw,hK⟩
  unfold execOp
  simp only [ho,Option.map_some,Option.map_none,hρ _ _ hx,hρ _ _ hi]
  simp [Instr.sliceAt,run_underlying ht,Instr.sureAddr,Instr.sliceBounds,Instr.sliceBound,asIntOf,szT_ok hs,Result.andThen,Addr.add,show l≤n by omega,show ¬ n=l by omega]
theorem OpOk.sliceHi {C:Ctx}{env:Env}{bx:Bx}{hp:List Seg}{S:Base}{o:Oper}{K:Value→Bx→List Seg→Prop}{t e:TypeId}{sz n b off:Nat}{x i:Operand}{kk:IntKind}(h:Nat)
    (ho:o.op=.slice t x none (some i) none) (hx:Env.ev env x=some (.pointer (some ⟨b,off,none⟩))) (hi:Env.ev env i=some (.int kk (h:Int))) (ht:C.P.underlying t=some (.array n e)) (hs:szT C.P e=some sz) (hh:h≤n) (hK:K (.slice (some ⟨b,off,none⟩) h n) bx hp):OpOk C o env bx hp S K:=by
  intro w hw ρ hρ
  refine .inl ⟨.slice (some ⟨b,off,none⟩) h n,w,bx,hp,.inl ?_,hw,hK⟩
  unfold execOp
  simp only [ho,Option.map_some,Option.map_none,hρ _ _ hx,hρ _ _ hi]
  simp [Instr.sliceAt,run_underlying ht,Instr.sureAddr,Instr.sliceBounds,Instr.sliceBound,asIntOf,szT_ok hs,Result.andThen,Addr.add,hh]
theorem OpOk.slice4 {C:Ctx}{env:Env}{bx:Bx}{hp:List Seg}{S:Base}{o:Oper}{K:Value→Bx→List Seg→Prop}{t e:TypeId}{sz n c:Nat}{x k i j:Operand}{b off:Nat}{kk:IntKind}(l h:Nat)
    (ho:o.op=.slice t x (some k) (some i) (some j)) (hx:Env.ev env x=some (.slice (some ⟨b,off,none⟩) n c)) (hk:Env.ev env k=some (.int kk (l:Int))) (hi:Env.ev env i=some (.int kk (h:Int))) (hj:Env.ev env j=some (.int kk (h:Int))) (ht:C.P.underlying t=some (.slice e)) (hs:szT C.P e=some sz) (hl:l < h) (hc:h≤c) (hK:K (.slice (some ⟨b,off+l * sz,none⟩) (h - l) (h - l)) bx hp):OpOk C o env bx hp S K:=by
  intro w hw ρ hρ
  refine .inl ⟨.slice (some ⟨b,off+l * sz,none⟩) (h - l) (h - l),w,bx,hp,.inl ?_,hw,hK⟩
  unfold execOp
  simp only [ho,Option.map_some,hρ _ _ hx,hρ _ _ hk,hρ _ _ hi,hρ _ _ hj]
  simp [Instr.sliceAt,run_underlying ht,Instr.slice,Instr.sliceBounds,Instr.sliceBound,asIntOf,szT_ok hs,Result.andThen,Addr.add,hc,Nat.le_of_lt hl,Nat.ne_of_gt hl]
end Go.Eng
