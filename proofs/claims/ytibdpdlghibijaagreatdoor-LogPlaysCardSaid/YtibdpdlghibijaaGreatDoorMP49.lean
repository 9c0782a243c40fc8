/-
  Engine, part 31: packs opened and shut; what a call that turns nothing leaves is the old world, grown.
-/
import Derived.Test.YtibdpdlghibijaaGreatDoorMP12
import Derived.Sort.Grow
import Derived.Deep.Draws
import Derived.Test.YtibdpdlghibijaaGreatDoorMP5
namespace Go.Eng
open Go
theorem WOk.unpackG {S:Base}{bx0 bx:Bx}{hp hp0:List Seg}{w:World}(h:WOk S bx0 (Seg.pack bx hp :: hp0) w):WOk S (bx0++bx) (hp++hp0) w:=by
  have hk:kys bx0 (Seg.pack bx hp :: hp0)=kys (bx0++bx) (hp++hp0):=kys_pack ..
  have ho:=h.toOwn.unpack
  exact⟨h.ext,by rw [← hk]; exact h.nd,by rw [← hk]; exact h.lt,by rw [← hk]; exact h.own,ho.bx,ho.hp⟩
theorem WOk.packG {S:Base}{bx0 bx:Bx}{hp hp0:List Seg}{w:World}(h:WOk S (bx0++bx) (hp++hp0) w):WOk S bx0 (Seg.pack bx hp :: hp0) w:=by
  have hk:kys bx0 (Seg.pack bx hp :: hp0)=kys (bx0++bx) (hp++hp0):=kys_pack ..
  have ho:=h.toOwn.pack
  exact⟨h.ext,by rw [hk]; exact h.nd,by rw [hk]; exact h.lt,by rw [hk]; exact h.own,ho.bx,ho.hp⟩
theorem Tri.re {P:Program}{f:FuncId}{args:List Value}{w:World}{m:List Nat}{Q Q':Value→Bx→List Seg→Prop}(h:Tri P f args w m Q)
    (hq:∀ v bx hp,Q v bx hp→∃ bx' hp',Q' v bx' hp'∧∀ S w',WOk S bx hp w'→WOk S bx' hp' w'):Tri P f args w m Q':=by
  refine⟨h.1,h.2.mono ?_⟩
  rintro e w' ⟨v,bx,hp,he,hQ,hext,hown,hk⟩
  obtain⟨bx',hp',h1,h2⟩:=hq v bx hp hQ
  have h3:=h2 ⟨w,m⟩ w' ⟨hext,hown.nd,hown.lt,hk,hown.bx,hown.hp⟩
  exact⟨v,bx',hp',he,h1,hext,h3.toOwn,h3.own⟩
theorem Tri.frame {P:Program}{f:FuncId}{args:List Value}{w:World}{bx bm br:Bx}{hp hm hr:List Seg}{Q:Value→Bx→List Seg→Prop}(hown:Own bx hp w) (hb:bx.Perm (bm++br)) (hh:hp.Perm (hm++hr))
    (h:Own bm hm w→Tri P f args w (kys bm hm) Q):Tri P f args w (kys bx hp) (fun v bx' hp'=>∃ b1 h1,Q v b1 h1∧bx'=b1++br∧hp'=h1++hr):=by
  have hp0:=kys_perm hb hh
  have hm0:Own bm hm w:=⟨(List.nodup_append.1 (hp0.nodup_iff.1 hown.nd)).1,fun k hk=>hown.lt k (hp0.mem_iff.2 (List.mem_append.2 (.inl hk))),fun e he=>hown.bx e (hb.mem_iff.2 (List.mem_append.2 (.inl he))),fun s hs=>hown.hp s (hh.mem_iff.2 (List.mem_append.2 (.inl hs)))⟩
  obtain⟨h1,h2⟩:=h hm0
  refine⟨h1,h2.mono ?_⟩
  rintro e w' ⟨v,b1,h1',he,hQ,hext,ho,hk⟩
  have hj:=hown.wok.join hb hh hext ho hk
  exact⟨v,_,_,he,⟨b1,h1',hQ,rfl,rfl⟩,hj.ext,hj.toOwn,hj.own⟩
theorem kys_pk (bx:Bx) (hp:List Seg):kys [] [Seg.pack bx hp]=kys bx hp:=by simp [kys,Seg.pack]
theorem Own.pk {bx:Bx}{hp:List Seg}{w:World}(h:Own [] [Seg.pack bx hp] w):Own bx hp w:=by
  have:=h.unpack; simpa using this
theorem Tri.pk {P:Program}{f:FuncId}{args:List Value}{w:World}{bx bm br:Bx}{hp hm hr:List Seg}{Q Q':Value→Bx→List Seg→Prop}(hown:Own [] [Seg.pack bx hp] w) (hb:bx.Perm (bm++br)) (hh:hp.Perm (hm++hr))
    (h:Own bm hm w→Tri P f args w (kys bm hm) Q) (hq:∀ v b1 h1,Q v b1 h1→∃ bx' hp',Q' v bx' hp'∧∀ S w',WOk S (b1++br) (h1++hr) w'→WOk S bx' hp' w'):Tri P f args w (kys [] [Seg.pack bx hp]) Q':=by
  rw [kys_pk]
  refine (Tri.frame hown.pk hb hh h).re ?_
  rintro v bx' hp' ⟨b1,h1,hQ,rfl,rfl⟩
  exact hq v b1 h1 hQ
theorem WOk.pk {S:Base}{bx:Bx}{hp:List Seg}{w:World}(h:WOk S bx hp w):WOk S [] [Seg.pack bx hp] w:=WOk.packG (bx0:=[]) (hp0:=[]) (by simpa using h)
theorem WOk.rowNil {S:Base}{bx:Bx}{hp:List Seg}{w:World}(h:WOk S bx hp w) (t sz:Nat):WOk S bx (Seg.row none t sz 0 0 [] :: hp) w :=
  h.newSeg (Ext.refl _ _) ⟨by simp,by simp,by simp,fun _=>rfl,fun g hg=>by cases hg⟩ (by simp [Seg.row]) (by simp [Seg.row])
end Go.Eng
