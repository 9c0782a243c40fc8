/-
  Walks of layer 10: names of files, their kinds and numbers.
-/
import Derived.Test.YtibdpdlghibijaaGreatDoorMP16
import Derived.Test.YtibdpdlghibijaaGreatDoorMP7
import Derived.Test.YtibdpdlghibijaaGreatDoorMP35
import Derived.Test.YtibdpdlghibijaaGreatDoorMP36
import Derived.Test.YtibdpdlghibijaaGreatDoorMP23
import Derived.Test.YtibdpdlghibijaaGreatDoorMP12
import Derived.Laws.RangeAny
import Derived.Laws.RangeString
import Derived.Test.YtibdpdlghibijaaGreatDoorMP33
namespace Go.Proofs
open Go Go.Eng
set_option maxRecDepth 100000
set_option maxHeartbeats 4000000
attribute [local irreducible] Tri
theorem Tryz.number_w (l:List UInt8) (w:World) (hl:l.length≤9223372036854775807) :
    Fun Tryz.prog 120 [str l] w (.tuple #[.int .i64 (((numS l).getD 0:Nat):Int),.bool (numS l).isSome]):=by
  have hbl:bl ⟨l.toArray⟩=l:=bl_of l
  have hby:(⟨l.toArray⟩:ByteArray).size=l.length:=by simp [ByteArray.size]
  refine Tri.enter (bx:=[]) (hp:=[]) Tryz.func120 rfl (by kernel_rfl) rfl (Own.nil w) ?_
  refine At.go [] [] rfl oK ?_
  refine At.st [] (OpOk.rangeStr (s:=⟨l.toArray⟩) rfl rfl (by kernel_rfl) fun r=>?_)
  refine At.go [] [] rfl oK ?_
  refine At.loop (env0:=[(0,.string { data:=l.toArray }),(4,.int .i64 0),(8,.pointer (some ⟨r,0,none⟩))]) (fun m_ env bx hp => ∃ (pos:Nat),m_=l.length - pos∧(pos≤l.length)∧(∀ c,c∈l.take pos→48≤c.toNat∧c.toNat≤57)∧(valP (l.take pos)≤1099511627776)∧(pos=0∨pos=1∨l.head?≠some 48)∧env=[(0,.string { data:=l.toArray }),(4,.int .i64 (valP (l.take pos))),(8,.pointer (some ⟨r,0,none⟩))]∧bx=[]∧hp=[Seg.obj r (.stringIter ⟨l.toArray⟩ pos)]) rfl
    ⟨0,rfl,(Nat.zero_le _),(by simp),((Nat.zero_le _)),(.inl rfl),rfl,rfl,rfl⟩ sB ?_
  rintro m_ env bx hp ⟨pos,rfl,hpos,hdig,hval,hlead,rfl,rfl,rfl⟩ ih
  refine At.go [] [] rfl oK ?_
  refine At.st [] (OpOk.nextStr 0 rfl rfl rfl (fun hd=>?_) (fun hlt c width hdec=>?_))
  · rw [hby] at hd
    obtain rfl:pos=l.length:=by omega
    rw [List.take_length] at hdig hval ⊢
    by_cases h0:l=[]
    · subst h0
      refine At.go [false] [] rfl (by and_intros <;> first | exact decide_eq_true rfl | (simp; done) | exact oK) ?_
      have hn:numS []=none:=by
        cases hs:numS [] with
        | none => rfl
        | some u => exact absurd rfl (numS_lead hs).1
      rw [hn]
      refine At.rt [] [] [] Tryz.func120 ?_
      exact⟨rfl,rfl,rfl⟩
    · have hn : numS l = some (valP l) := numS_ok h0 hdig (by rcases hlead with h | h | h; · exact absurd (List.length_eq_zero_iff.1 h) h0
                                                              · exact .inl h
                                                              · exact .inr h) hval
      rw [hn]
      refine At.go [false] [] rfl (by and_intros <;> first | exact decide_eq_true rfl | (simp; done) | exact oK) ?_
      refine At.rt [] [] [] Tryz.func120 ?_
      exact⟨by simp [tupV,h0,bl_of],rfl,rfl⟩
  · rw [hby] at hlt
    obtain⟨x,hx⟩:∃ x,l[pos]?=some x:=⟨_,List.getElem?_eq_getElem hlt⟩
    have hxe:(⟨l.toArray⟩:ByteArray)[pos]'(by rw [hby]; exact hlt)=x:=by
      have:=(List.getElem?_eq_some_iff.1 hx).2
      rw [← this]; rfl
    have hxm:x∈l:=List.mem_of_getElem? hx
    have hcm:c≤2147483647:=by have:=decode_le ⟨l.toArray⟩ pos; rw [hdec] at this; exact this
    have hlo:x.toNat < 128→c=x.toNat∧width=1:=fun h8=>by
      have hda:=decode_ascii ⟨l.toArray⟩ pos (by rw [hby]; exact hlt) (by rw [hxe]; exact h8)
      rw [hdec,hxe] at hda
      simp only [Prod.mk.injEq] at hda
      exact hda
    have hhi:128≤x.toNat→128≤c:=fun h8=>by
      have:=(decode_high ⟨l.toArray⟩ pos (by rw [hby]; exact hlt) (by rw [hxe]; exact h8)).1
      rw [hdec] at this; exact this
    have hno:¬ (48≤x.toNat∧x.toNat≤57)→numS l=none:=fun h=>by
      cases hs:numS l with
      | none => rfl
      | some u => exact absurd (numS_digit hs hxm) h
    have htk:valP (l.take (pos+1))=10 * valP (l.take pos)+(x.toNat - 48):=by rw [List.take_add_one,hx]; exact valP_snoc _ _
    by_cases e1:(c:Int) < 48
    · rw [hno (by intro h; have:=hlo (by omega); omega)]
      have e1':=decide_eq_true e1
      refine At.go [true,true,true,true] [] rfl (by and_intros <;> first | exact e1' | exact oK) ?_
      refine At.rt [] [] [] Tryz.func120 ?_
      exact⟨rfl,rfl,rfl⟩
    by_cases e2:(57:Int) < c
    · rw [hno (by intro h; have:=hlo (by omega); omega)]
      have e1':=decide_eq_false e1
      have e2':=decide_eq_true e2
      refine At.go [true,false,true,true] [] rfl (by and_intros <;> first | exact e1' | exact e2' | exact oK) ?_
      refine At.rt [] [] [] Tryz.func120 ?_
      exact⟨rfl,rfl,rfl⟩
    have h8:x.toNat < 128:=by
      rcases Nat.lt_or_ge x.toNat 128 with h | h
      · exact h
      · have:=hhi h; omega
    obtain⟨rfl,rfl⟩:=hlo h8
    have e1':=decide_eq_false e1
    have e2':=decide_eq_false e2
    obtain⟨v,hv⟩:∃ v,valP (l.take pos)=v:=⟨_,rfl⟩
    rw [hv] at hval htk ⊢
    have hone:1≤pos→∃ y t,l=y :: t∧48≤y.toNat∧y.toNat - 48≤v∧(pos=1→v=y.toNat - 48):=fun hp=>by
      cases l with
      | nil => simp at hx
      | cons y t =>
        have h1:valP [y]=y.toNat - 48:=by have:=valP_snoc [] y; simpa [valP,valA] using this
        refine⟨y,t,rfl,(hdig y (by obtain⟨q,rfl⟩:∃ q,pos=q+1:=⟨pos - 1,by omega⟩; simp)).1,?_,?_⟩
        · have h2:=valP_take ((y :: t).take pos) 1
          rw [List.take_take,Nat.min_eq_left hp,hv] at h2
          have h3:(y :: t).take 1=[y]:=rfl
          rw [h3,h1] at h2; exact h2
        · rintro rfl
          rw [← hv]; exact h1
    have hdig':∀ c,c∈l.take (pos+1)→48≤c.toNat∧c.toNat≤57:=fun c hc=>by
      rw [List.take_add_one,hx] at hc
      rcases List.mem_append.1 hc with h | h
      · exact hdig c h
      · simp at h; subst h; omega
    have hov:(1099511627776:Int) < 10 * (v:Int)+((x.toNat:Int) - 48)→numS l=none:=fun h=>by
      cases hs:numS l with
      | none => rfl
      | some u =>
        obtain⟨-,h1,h2⟩:=numS_some hs
        have h3:=valP_take l (pos+1)
        omega
    have hx48:48≤x.toNat:=by omega
    have hnx:10 * (v:Int)+((x.toNat:Int) - 48)=((valP (l.take (pos+1)):Nat):Int):=by
      rw [htk,Int.natCast_add,Int.natCast_mul,Int.ofNat_sub hx48]; rfl
    by_cases hp:0 < pos
    · have p1:decide ((0:Int) < (pos:Int))=true:=decide_eq_true (by omega)
      obtain⟨y,t,hl',hy1,hy2,hy3⟩:=hone hp
      by_cases hv0:v=0
      · subst hv0
        have hn:numS l=none:=by
          cases hs:numS l with
          | none => rfl
          | some u =>
            have h1:=(numS_lead hs).2
            have h2:y=48:=UInt8.toNat_inj.1 (by have h10:(48:UInt8).toNat=48:=rfl; omega)
            rw [hl',h2] at h1
            rw [hl'] at hlt
            simp at h1 hlt
            subst h1
            simp at hlt; omega
        rw [hn]
        refine At.go [true,false,false,true,true] [] rfl (by and_intros <;> first | exact e1' | exact e2' | exact p1 | (simp; done) | exact oK) ?_
        refine At.rt [] [] [] Tryz.func120 ?_
        exact⟨rfl,rfl,rfl⟩
      · have v1:decide ((v:Int)=0)=false:=decide_eq_false (by omega)
        by_cases ho:(1099511627776:Int) < 10 * (v:Int)+((x.toNat:Int) - 48)
        · rw [hov ho]
          have o1:=decide_eq_true ho
          refine At.go [true,false,false,true,false,true] [] rfl (by and_intros <;> first | exact e1' | exact e2' | exact p1 | exact v1 | exact o1 | exact oK) ?_
          refine At.rt [] [] [] Tryz.func120 ?_
          exact⟨rfl,rfl,rfl⟩
        · have o1:=decide_eq_false ho
          have hld:pos+1=0∨pos+1=1∨l.head?≠some 48:=by
            refine .inr (.inr ?_)
            rw [hl']
            simp only [List.head?_cons,ne_eq,Option.some.injEq]
            intro hy
            subst hy
            have h10:(48:UInt8).toNat=48:=rfl
            rcases hlead with h | h | h
            · omega
            · have:=hy3 h; omega
            · rw [hl'] at h; exact h rfl
          refine At.go [true,false,false,true,false,false] [] rfl (by and_intros <;> first | exact e1' | exact e2' | exact p1 | exact v1 | exact o1 | exact oK) ?_
          rw [hnx]
          exact At.weak (ih _ _ _ _ (by omega) ⟨pos+1,rfl,by omega,hdig',by omega,hld,rfl,rfl,rfl⟩) sB
    · obtain rfl:pos=0:=by omega
      have p1:decide ((0:Int) < ((0:Nat):Int))=false:=by decide
      have hv0:v=0:=by rw [← hv]; rfl
      subst hv0
      have o1:decide ((1099511627776:Int) < 10 * ((0:Nat):Int)+((x.toNat:Int) - 48))=false:=decide_eq_false (by omega)
      refine At.go [true,false,false,false,false,false] [] rfl (by and_intros <;> first | exact e1' | exact e2' | exact p1 | exact o1 | exact oK) ?_
      rw [hnx]
      exact At.weak (ih _ _ _ _ (by omega) ⟨0+1,rfl,by omega,hdig',by omega,.inr (.inl rfl),rfl,rfl,rfl⟩) sB
theorem Tryz.shKind_w (l:List UInt8) (w:World) (hl:l.length≤9223372036854775807) :
    Fun Tryz.prog 93 [str l] w (.tuple #[.int .i64 (kindB l).1,.int .i64 (kindB l).2.1,.bool (kindB l).2.2]):=by
  have hbl:bl ⟨l.toArray⟩=l:=bl_of l
  refine Tri.enter (bx:=[]) (hp:=[]) Tryz.func93 rfl (by kernel_rfl) rfl (Own.nil w) ?_
  unfold kindB
  by_cases hh:l=headsB
  · subst hh
    refine At.go [true] [] rfl (by and_intros <;> first | exact decide_eq_true rfl | (simp; done) | exact oK) ?_
    refine At.rt [] [] [] Tryz.func93 ?_
    exact⟨rfl,rfl,rfl⟩
  rw [if_neg hh]
  have q1:decide (bl ⟨l.toArray⟩=bl ⟨#[104,101,97,100,115]⟩)=false:=decide_eq_false (by rw [hbl]; exact hh)
  cases l with
  | nil =>
    refine At.go [false,true] [] rfl (by and_intros <;> first | exact q1 | exact decide_eq_true rfl | (simp; done) | exact oK) ?_
    refine At.rt [] [] [] Tryz.func93 ?_
    exact⟨rfl,rfl,rfl⟩
  | cons c t =>
    have q2:decide (bl ⟨(c :: t).toArray⟩=bl ⟨#[]⟩)=false:=decide_eq_false (by rw [hbl]; exact List.cons_ne_nil _ _)
    have hN:=fun w'=>Tryz.number_w t w' (by simp at hl; omega)
    cases hs:numS t with
    | none =>
      rw [hs] at hN
      have hN0:∀ {S:Base}{bx:Bx}{hp:List Seg},CallOb Tryz.prog S bx hp 120 [str t] (.tuple #[.int .i64 0,.bool false]):=fun {_ _ _} w' _=>hN w'
      refine At.go [false,false,false,false,false,false] [hC (.tuple ⟨[.int .i64 0,.bool false]⟩)] rfl (by and_intros <;> first | exact q1 | exact q2 | exact hN0 | (rw [hbl,List.length_cons]; omega) | (simp; done) | exact oK) ?_
      refine At.rt [] [] [] Tryz.func93 ?_
      exact⟨by simp [tupV,hs],rfl,rfl⟩
    | some u =>
      rw [hs] at hN
      have hu:=(numS_some hs).2.1
      have hN1:∀ {S:Base}{bx:Bx}{hp:List Seg},CallOb Tryz.prog S bx hp 120 [str t] (.tuple #[.int .i64 u,.bool true]):=fun {_ _ _} w' _=>hN w'
      by_cases h1:c=115
      · subst h1
        refine At.go [false,false,true,true] [hC (.tuple ⟨[.int .i64 ↑u,.bool true]⟩)] rfl (by and_intros <;> first | exact q1 | exact q2 | exact hN1 | (rw [hbl,List.length_cons]; omega) | (rw [hbl]; exact decide_eq_true rfl) | (simp; done) | exact oK) ?_
        refine At.rt [] [] [] Tryz.func93 ?_
        exact⟨by simp [tupV,hs],rfl,rfl⟩
      · have c1:¬ ((c.toNat:Int)=115):=fun h => h1 (UInt8.toNat_inj.1 (by have h10:(115:UInt8).toNat=115:=rfl; omega))
        by_cases h2:c=99
        · subst h2
          refine At.go [false,false,true,false,true,true] [hC (.tuple ⟨[.int .i64 ↑u,.bool true]⟩)] rfl (by and_intros <;> first | exact q1 | exact q2 | exact hN1 | (rw [hbl,List.length_cons]; omega) | (rw [hbl]; exact decide_eq_false c1) | (rw [hbl]; exact decide_eq_true rfl) | (simp; done) | exact oK) ?_
          refine At.rt [] [] [] Tryz.func93 ?_
          exact⟨by simp [tupV,h1,hs],rfl,rfl⟩
        · have c2:¬ ((c.toNat:Int)=99):=fun h => h2 (UInt8.toNat_inj.1 (by have h10:(99:UInt8).toNat=99:=rfl; omega))
          refine At.go [false,false,true,false,true,false] [hC (.tuple ⟨[.int .i64 ↑u,.bool true]⟩)] rfl (by and_intros <;> first | exact q1 | exact q2 | exact hN1 | (rw [hbl,List.length_cons]; omega) | (rw [hbl]; exact decide_eq_false c1) | (rw [hbl]; exact decide_eq_false c2) | (simp; done) | exact oK) ?_
          refine At.rt [] [] [] Tryz.func93 ?_
          exact⟨by simp [tupV,h1,h2,hs],rfl,rfl⟩
theorem Tryz.named_w (c:UInt8) (n:Int) (w:World) (hn:inK .i64 n) (hT:Tryz.Pow w) :
    Fun Tryz.prog 117 [str [c],.int .i64 n] w (str (nmB c n)):=by
  refine Tri.enter (bx:=[]) (hp:=[]) Tryz.func117 rfl (by kernel_rfl) rfl (Own.nil w) ?_
  unfold nmB
  by_cases h0:n < 0
  · rw [if_neg (by omega)]
    refine At.go [true,true] [] rfl (by and_intros <;> first | exact decide_eq_true h0 | (simp; done) | exact oK) ?_
    refine At.rt [] [] [] Tryz.func117 ?_
    exact⟨rfl,rfl,rfl⟩
  have e0:=decide_eq_false h0
  by_cases h1:(1099511627776:Int) < n
  · rw [if_neg (by omega)]
    refine At.go [false,true] [] rfl (by and_intros <;> first | exact e0 | exact decide_eq_true h1 | (simp; done) | exact oK) ?_
    refine At.rt [] [] [] Tryz.func117 ?_
    exact⟨rfl,rfl,rfl⟩
  rw [if_pos (by omega)]
  have hF:∀ {bx:Bx}{hp:List Seg},CallOb Tryz.prog ⟨w,kys [] []⟩ bx hp 135 [.int .i64 n] (str (Lib.itoa n)):=fun {_ _} w' hw'=>Fun.ofGrow Tryz.func135 (Tryz.strconv_Itoa n (by omega) (by omega) w' (tab_ext hT hw'.ext))
  have hil:=itoa_len hn
  refine At.go [false,false] [hC (.string { data:=(Lib.itoa n).toArray })] rfl (by and_intros <;> first | exact e0 | exact decide_eq_false h1 | exact hF | (simp [bl]; omega) | exact oK) ?_
  refine At.rt [] [] [] Tryz.func117 ?_
  exact⟨rfl,rfl,rfl⟩
theorem Tryz.shSegment_w (n:Int) (w:World) (hn:inK .i64 n) (hT:Tryz.Pow w):Fun Tryz.prog 88 [.int .i64 n] w (str (nmB 115 n)):=by
  have hF:∀ {bx:Bx}{hp:List Seg},CallOb Tryz.prog ⟨w,kys [] []⟩ bx hp 117 [str [115],.int .i64 n] (str (nmB 115 n)):=fun {_ _} w' hw'=>Tryz.named_w 115 n w' hn (tab_ext hT hw'.ext)
  refine Tri.enter (bx:=[]) (hp:=[]) Tryz.func88 rfl (by kernel_rfl) rfl (Own.nil w) ?_
  refine At.go [] [hC (.string { data:=(nmB 115 n).toArray })] rfl (by and_intros <;> first | exact hF | exact oK) ?_
  refine At.rt [] [] [] Tryz.func88 ?_
  exact⟨rfl,rfl,rfl⟩
theorem dig10:∀ k:Nat,k < 10→(([48,49,50,51,52,53,54,55,56,57]:List UInt8).drop k).take 1=Lib.decDigits k:=by
  intro k hk
  rw [Lib.decDigits,dif_pos hk]
  revert k
  decide
theorem dec_eq {k:Nat}(h:¬ k < 10):Lib.decDigits k=Lib.decDigits (k / 10)++Lib.decDigits (k % 10):=by
  rw [Lib.decDigits,dif_neg h]
  congr 1
  rw [Lib.decDigits,dif_pos (by omega)]
theorem Tryz.rdec10_w (k:Nat):∀ (w:World),k≤9223372036854775807→Fun Tryz.prog 103 [.int .i64 k] w (str (Lib.decDigits k)):=by
  induction k using Nat.strongRecOn with
  | _ k ih =>
    intro w hk
    refine Tri.enter (bx:=[]) (hp:=[]) Tryz.func103 rfl (by kernel_rfl) rfl (Own.nil w) ?_
    by_cases h:k < 10
    · refine At.go [true] [] rfl (by and_intros <;> first | exact decide_eq_true (by omega) | (simp [bl]; omega) | (simp; done) | exact oK) ?_
      refine At.rt [] [] [] Tryz.func103 ?_
      exact⟨by rw [← dig10 k h]; simp [tupV,str,bl]; done,rfl,rfl⟩
    · rw [dec_eq h]
      have d1:(Lib.decDigits (k / 10)).length≤19:=dd_len 18 _ (by rw [show (10:Nat) ^ (18+1)=10000000000000000000 by decide]; omega)
      have d2:(Lib.decDigits (k % 10)).length≤1:=dd_len 0 _ (by omega)
      have h1:∀ {S:Base}{bx:Bx}{hp:List Seg},CallOb Tryz.prog S bx hp 103 [.int .i64 ((k / 10:Nat):Int)] (str (Lib.decDigits (k / 10))):=fun {_ _ _} w' _=>ih (k / 10) (by omega) w' (by omega)
      have h2:∀ {S:Base}{bx:Bx}{hp:List Seg},CallOb Tryz.prog S bx hp 103 [.int .i64 ((k % 10:Nat):Int)] (str (Lib.decDigits (k % 10))):=fun {_ _ _} w' _=>ih (k % 10) (by omega) w' (by omega)
      refine At.go [false] [hC (.string { data:=(Lib.decDigits (k / 10)).toArray }),hC (.string { data:=(Lib.decDigits (k % 10)).toArray })] rfl (by and_intros <;> first | exact decide_eq_false (by omega) | exact h1 | exact h2 | (rw [bl_of,bl_of]; omega) | exact oK) ?_
      refine At.rt [] [] [] Tryz.func103 ?_
      exact⟨by rw [bl_of,bl_of]; rfl,rfl,rfl⟩
theorem Tryz.rSegment_w (n:Int) (w:World):Fun Tryz.prog 61 [.int .i64 n] w (str (nmB 115 n)):=by
  refine Tri.enter (bx:=[]) (hp:=[]) Tryz.func61 rfl (by kernel_rfl) rfl (Own.nil w) ?_
  unfold nmB
  by_cases h0:n < 0
  · rw [if_neg (by omega)]
    refine At.go [true,true] [] rfl (by and_intros <;> first | exact decide_eq_true h0 | (simp; done) | exact oK) ?_
    refine At.rt [] [] [] Tryz.func61 ?_
    exact⟨rfl,rfl,rfl⟩
  have e0:=decide_eq_false h0
  by_cases h1:(1099511627776:Int) < n
  · rw [if_neg (by omega)]
    refine At.go [false,true] [] rfl (by and_intros <;> first | exact e0 | exact decide_eq_true h1 | (simp; done) | exact oK) ?_
    refine At.rt [] [] [] Tryz.func61 ?_
    exact⟨rfl,rfl,rfl⟩
  rw [if_pos (by omega)]
  obtain⟨k,rfl⟩:∃ k:Nat,n=k:=⟨n.toNat,by omega⟩
  have hi:Lib.itoa (k:Int)=Lib.decDigits k:=by unfold Lib.itoa; rw [if_neg (by omega),Int.toNat_natCast]
  rw [hi]
  have dl:(Lib.decDigits k).length≤19:=dd_len 18 _ (by rw [show (10:Nat) ^ (18+1)=10000000000000000000 by decide]; omega)
  have hD:∀ {S:Base}{bx:Bx}{hp:List Seg},CallOb Tryz.prog S bx hp 103 [.int .i64 (k:Int)] (str (Lib.decDigits k)):=fun {_ _ _} w' _=>Tryz.rdec10_w k w' (by omega)
  refine At.go [false,false] [hC (.string { data:=(Lib.decDigits k).toArray })] rfl (by and_intros <;> first | exact e0 | exact decide_eq_false h1 | exact hD | (rw [bl_of]; simp [bl]; omega) | exact oK) ?_
  refine At.rt [] [] [] Tryz.func61 ?_
  exact⟨by rw [bl_of]; rfl,rfl,rfl⟩
theorem Tryz.rColumn_w (n:Int) (w:World):Fun Tryz.prog 108 [.int .i64 n] w (str (nmB 99 n)):=by
  refine Tri.enter (bx:=[]) (hp:=[]) Tryz.func108 rfl (by kernel_rfl) rfl (Own.nil w) ?_
  unfold nmB
  by_cases h0:n < 0
  · rw [if_neg (by omega)]
    refine At.go [true,true] [] rfl (by and_intros <;> first | exact decide_eq_true h0 | (simp; done) | exact oK) ?_
    refine At.rt [] [] [] Tryz.func108 ?_
    exact⟨rfl,rfl,rfl⟩
  have e0:=decide_eq_false h0
  by_cases h1:(1099511627776:Int) < n
  · rw [if_neg (by omega)]
    refine At.go [false,true] [] rfl (by and_intros <;> first | exact e0 | exact decide_eq_true h1 | (simp; done) | exact oK) ?_
    refine At.rt [] [] [] Tryz.func108 ?_
    exact⟨rfl,rfl,rfl⟩
  rw [if_pos (by omega)]
  obtain⟨k,rfl⟩:∃ k:Nat,n=k:=⟨n.toNat,by omega⟩
  have hi:Lib.itoa (k:Int)=Lib.decDigits k:=by unfold Lib.itoa; rw [if_neg (by omega),Int.toNat_natCast]
  rw [hi]
  have dl:(Lib.decDigits k).length≤19:=dd_len 18 _ (by rw [show (10:Nat) ^ (18+1)=10000000000000000000 by decide]; omega)
  have hD:∀ {S:Base}{bx:Bx}{hp:List Seg},CallOb Tryz.prog S bx hp 103 [.int .i64 (k:Int)] (str (Lib.decDigits k)):=fun {_ _ _} w' _=>Tryz.rdec10_w k w' (by omega)
  refine At.go [false,false] [hC (.string { data:=(Lib.decDigits k).toArray })] rfl (by and_intros <;> first | exact e0 | exact decide_eq_false h1 | exact hD | (rw [bl_of]; simp [bl]; omega) | exact oK) ?_
  refine At.rt [] [] [] Tryz.func108 ?_
  exact⟨by rw [bl_of]; rfl,rfl,rfl⟩
theorem valP_bound:∀ (k:Nat) (l:List UInt8),l.length=k→(∀ c,c∈l→c.toNat≤57)→valP l < 10 ^ k
  | 0,l,hk,_ => by rw [List.length_eq_zero_iff.1 hk]; decide
  | k+1,l,hk,h => by
    have h0:l≠[]:=fun e=>by rw [e] at hk; simp at hk
    obtain⟨xs,c,rfl⟩:∃ xs c,l=xs++[c]:=⟨l.dropLast,l.getLast h0,(List.dropLast_concat_getLast h0).symm⟩
    rw [valP_snoc,Nat.pow_succ]
    have h1:=valP_bound k xs (by simpa using hk) fun x hx=>h x (List.mem_append_left _ hx)
    have h2:=h c (by simp)
    omega
theorem kind_none {c:UInt8}{t:List UInt8}(hh:c :: t≠headsB) (h:numS t=none∨(c≠115∧c≠99)):kindB (c :: t)=(0,0,false):=by
  unfold kindB
  rw [if_neg hh]
  cases hs:numS t with
  | none => simp only [hs]
  | some u =>
    rcases h with h | h
    · rw [h] at hs; cases hs
    · simp only [hs]; rw [if_neg h.1,if_neg h.2]
theorem kind_some {c:UInt8}{t:List UInt8}{u:Nat}(hh:c :: t≠headsB) (h:numS t=some u):kindB (c :: t)=if c=115 then (1,(u:Int),true) else if c=99 then (2,(u:Int),true) else (0,0,false):=by
  unfold kindB
  rw [if_neg hh]
  simp only [h]
theorem numS_long {t:List UInt8}(h:13 < t.length):numS t=none:=by
  cases hs:numS t with
  | none => rfl
  | some u =>
    obtain⟨h1,h2,-⟩:=numS_some hs
    have:=dd_len 12 u (by rw [show (10:Nat) ^ (12+1)=10000000000000 by decide]; omega)
    rw [h1] at this; omega
theorem numS_nil:numS []=none:=by
  cases hs:numS [] with
  | none => rfl
  | some u => exact absurd rfl (numS_lead hs).1
theorem numS_nodig {t:List UInt8}{x:UInt8}(h:x∈t) (hx:¬ (48≤x.toNat∧x.toNat≤57)):numS t=none:=by
  cases hs:numS t with
  | none => rfl
  | some u => exact absurd (numS_digit hs h) hx
theorem valP_13 {l:List UInt8}(h:l.length≤13) (hd:∀ c,c∈l→c.toNat≤57):valP l < 10000000000000:=by
  have h1:=valP_bound l.length l rfl hd
  have h2:10 ^ l.length≤10 ^ 13:=Nat.pow_le_pow_right (by decide) h
  have h3:(10:Nat) ^ 13=10000000000000:=by decide
  omega
theorem nmB_of {c:UInt8}{v:Nat}(h:v≤1099511627776):nmB c (v:Int)=c :: Lib.decDigits v:=by
  unfold nmB
  rw [if_pos (by omega)]
  unfold Lib.itoa
  rw [if_neg (by omega),Int.toNat_natCast]
theorem Tryz.rKind115_w (t:List UInt8) (w:World) (h1:1≤t.length) (h13:t.length≤13) :
    Fun Tryz.prog 69 [str (115 :: t)] w (.tuple #[.int .i64 (kindB (115 :: t)).1,.int .i64 (kindB (115 :: t)).2.1,.bool (kindB (115 :: t)).2.2]):=by
  have hbl:bl ⟨((115:UInt8) :: t).toArray⟩=115 :: t:=bl_of _
  have hh:(115 :: t:List UInt8)≠headsB:=fun h=>by injection h with h1 _; exact absurd h1 (by decide)
  have q1:decide (bl ⟨((115:UInt8) :: t).toArray⟩=bl ⟨#[104,101,97,100,115]⟩)=false:=decide_eq_false (by rw [hbl]; exact hh)
  have hlt:(bl ⟨((115:UInt8) :: t).toArray⟩).length=t.length+1:=by rw [hbl]; rfl
  have a1:(!decide ((((115:UInt8).toNat:Nat):Int)=115))=false:=rfl
  have a2:(!decide ((((115:UInt8).toNat:Nat):Int)=99))=true:=rfl
  have hz:(bl ⟨((115:UInt8) :: t).toArray⟩)[(0:Int).toNat]?.getD 0=115:=by rw [hbl]; rfl
  refine Tri.enter (bx:=[]) (hp:=[]) Tryz.func69 rfl (by kernel_rfl) rfl (Own.nil w) ?_
  refine At.go [false,false,false,false,false] [] rfl (by and_intros <;> first | exact q1 | (rw [hlt]; exact decide_eq_false (by omega)) | (rw [hlt]; omega) | (rw [hz]; exact a1) | (rw [hz]; exact a2) | (simp; done) | exact oK) ?_
  refine At.loop (env0:=[(0,.string { data:=(115 :: t).toArray }),(5,.int .i64 0),(6,.int .i64 1)]) (fun m_ env bx hp => ∃ (k:Nat),m_=t.length - k∧(k≤t.length)∧(∀ c,c∈t.take k→48≤c.toNat∧c.toNat≤57)∧env=[(0,.string { data:=(115 :: t).toArray }),(5,.int .i64 (valP (t.take k):Nat)),(6,.int .i64 ((k+1:Nat):Int))]∧bx=[]∧hp=[]) rfl
    ⟨0,rfl,(by omega),(fun c hc=>by simp at hc),rfl,rfl,rfl⟩ sB ?_
  rintro m_ env bx hp ⟨k,rfl,hk,hd,rfl,rfl,rfl⟩ ih
  by_cases hkl:k < t.length
  · obtain⟨x,hx⟩:∃ x,t[k]?=some x:=⟨_,List.getElem?_eq_getElem hkl⟩
    have hmem:x∈t:=List.mem_of_getElem? hx
    have htk:t.take (k+1)=t.take k++[x]:=by rw [List.take_add_one,hx]; rfl
    have hgx:(bl ⟨((115:UInt8) :: t).toArray⟩)[((k+1:Nat):Int).toNat]?.getD 0=x:=by rw [hbl,Int.toNat_natCast,List.getElem?_cons_succ,hx]; rfl
    have hlk:decide (((k+1:Nat):Int) < ((bl ⟨((115:UInt8) :: t).toArray⟩).length:Int))=true:=decide_eq_true (by rw [hlt]; omega)
    by_cases h48:x.toNat < 48
    · rw [kind_none hh (.inl (numS_nodig hmem (by omega)))]
      refine At.go [true,true,true] [] rfl (by and_intros <;> first | exact hlk | (rw [hlt]; omega) | (rw [hgx]; exact decide_eq_true (by omega)) | exact oK) ?_
      refine At.rt [] [] [] Tryz.func69 ?_
      exact⟨rfl,rfl,rfl⟩
    by_cases h57:57 < x.toNat
    · rw [kind_none hh (.inl (numS_nodig hmem (by omega)))]
      refine At.go [true,false,true] [] rfl (by and_intros <;> first | exact hlk | (rw [hlt]; omega) | (rw [hgx]; exact decide_eq_false (by omega)) | (rw [hgx]; exact decide_eq_true (by omega)) | exact oK) ?_
      refine At.rt [] [] [] Tryz.func69 ?_
      exact⟨rfl,rfl,rfl⟩
    have hd2:∀ c,c∈t.take (k+1)→48≤c.toNat∧c.toNat≤57:=fun c hc=>by
      rw [htk] at hc
      rcases List.mem_append.1 hc with hc | hc
      · exact hd c hc
      · rw [List.mem_singleton] at hc; subst hc; omega
    have hv:valP (t.take (k+1))=10 * valP (t.take k)+(x.toNat - 48):=by rw [htk,valP_snoc]
    have hb:valP (t.take k) < 10000000000000:=valP_13 (by rw [List.length_take]; omega) fun c hc=>(hd c hc).2
    refine At.go [true,false,false] [] rfl (by and_intros <;> first | exact hlk | (rw [hlt]; omega) | (rw [hgx]; exact decide_eq_false (by omega)) | (rw [hgx]; omega) | exact oK) ?_
    rw [hgx,show (10:Int) * (valP (t.take k):Nat)+x.toNat - 48=((valP (t.take (k+1)):Nat):Int) by rw [hv]; omega]
    exact At.weak (ih _ _ _ _ (by omega) ⟨k+1,rfl,by omega,hd2,rfl,rfl,rfl⟩) sB
  · obtain rfl:k=t.length:=by omega
    rw [List.take_length] at hd ⊢
    have hlk:decide (((t.length+1:Nat):Int) < ((bl ⟨((115:UInt8) :: t).toArray⟩).length:Int))=false:=decide_eq_false (by rw [hlt]; omega)
    obtain⟨v,hv⟩:∃ v,valP t=v:=⟨_,rfl⟩
    have hb:valP t < 10000000000000:=valP_13 h13 fun c hc=>(hd c hc).2
    rw [hv] at hb ⊢
    by_cases hm:1099511627776 < v
    · have hn:numS t=none:=by
        cases hs:numS t with
        | none => rfl
        | some u => obtain⟨-,h2,h3⟩:=numS_some hs; omega
      rw [kind_none hh (.inl hn)]
      refine At.go [false,true] [] rfl (by and_intros <;> first | exact hlk | exact decide_eq_true (by omega) | exact oK) ?_
      refine At.rt [] [] [] Tryz.func69 ?_
      exact⟨rfl,rfl,rfl⟩
    have hS:∀ {S:Base}{bx:Bx}{hp:List Seg},CallOb Tryz.prog S bx hp 61 [.int .i64 v] (str (115 :: Lib.decDigits v)):=fun {_ _ _} w' _=>by
      have:=Tryz.rSegment_w (v:Int) w'; rwa [nmB_of (by omega)] at this
    have fC:∀ {S:Base}{bx:Bx}{hp:List Seg},CallOb Tryz.prog S bx hp 108 [.int .i64 v] (str (99 :: Lib.decDigits v)):=fun {_ _ _} w' _=>by
      have:=Tryz.rColumn_w (v:Int) w'; rwa [nmB_of (by omega)] at this
    by_cases hdt:Lib.decDigits v=t
    · have hn:numS t=some v:=by unfold numS; rw [hv,if_pos ⟨hdt,by omega⟩]
      rw [kind_some hh hn]
      have eS:decide (bl ⟨((115:UInt8) :: Lib.decDigits v).toArray⟩=bl ⟨((115:UInt8) :: t).toArray⟩)=true:=decide_eq_true (by rw [bl_of,bl_of,hdt])
      have eC:decide (bl ⟨((99:UInt8) :: Lib.decDigits v).toArray⟩=bl ⟨((115:UInt8) :: t).toArray⟩)=false:=decide_eq_false (by rw [bl_of,bl_of]; intro h; injection h with h _; exact absurd h (by decide))
      refine At.go [false,false,true] [hC (.string { data:=(115 :: Lib.decDigits v).toArray })] rfl (by and_intros <;> first | exact hlk | exact hS | exact fC | exact eS | exact eC | exact decide_eq_false (by omega) | exact oK) ?_
      refine At.rt [] [] [] Tryz.func69 ?_
      exact⟨rfl,rfl,rfl⟩
    · have hn:numS t=none:=by
        cases hs:numS t with
        | none => rfl
        | some u => obtain⟨h2,-,h3⟩:=numS_some hs; rw [hv] at h3; subst h3; exact absurd h2 hdt
      rw [kind_none hh (.inl hn)]
      have eS:decide (bl ⟨((115:UInt8) :: Lib.decDigits v).toArray⟩=bl ⟨((115:UInt8) :: t).toArray⟩)=false:=decide_eq_false (by rw [bl_of,bl_of]; intro h; injection h with _ h; exact hdt h)
      have eC:decide (bl ⟨((99:UInt8) :: Lib.decDigits v).toArray⟩=bl ⟨((115:UInt8) :: t).toArray⟩)=false:=decide_eq_false (by rw [bl_of,bl_of]; intro h; injection h with _ h; exact hdt h)
      refine At.go [false,false,false,false] [hC (.string { data:=(115 :: Lib.decDigits v).toArray }),hC (.string { data:=(99 :: Lib.decDigits v).toArray })] rfl (by and_intros <;> first | exact hlk | exact hS | exact fC | exact eS | exact eC | exact decide_eq_false (by omega) | exact oK) ?_
      refine At.rt [] [] [] Tryz.func69 ?_
      exact⟨rfl,rfl,rfl⟩
theorem Tryz.rKind99_w (t:List UInt8) (w:World) (h1:1≤t.length) (h13:t.length≤13) :
    Fun Tryz.prog 69 [str (99 :: t)] w (.tuple #[.int .i64 (kindB (99 :: t)).1,.int .i64 (kindB (99 :: t)).2.1,.bool (kindB (99 :: t)).2.2]):=by
  have hbl:bl ⟨((99:UInt8) :: t).toArray⟩=99 :: t:=bl_of _
  have hh:(99 :: t:List UInt8)≠headsB:=fun h=>by injection h with h1 _; exact absurd h1 (by decide)
  have q1:decide (bl ⟨((99:UInt8) :: t).toArray⟩=bl ⟨#[104,101,97,100,115]⟩)=false:=decide_eq_false (by rw [hbl]; exact hh)
  have hlt:(bl ⟨((99:UInt8) :: t).toArray⟩).length=t.length+1:=by rw [hbl]; rfl
  have a1:(!decide ((((99:UInt8).toNat:Nat):Int)=115))=true:=rfl
  have a2:(!decide ((((99:UInt8).toNat:Nat):Int)=99))=false:=rfl
  have hz:(bl ⟨((99:UInt8) :: t).toArray⟩)[(0:Int).toNat]?.getD 0=99:=by rw [hbl]; rfl
  refine Tri.enter (bx:=[]) (hp:=[]) Tryz.func69 rfl (by kernel_rfl) rfl (Own.nil w) ?_
  refine At.go [false,false,false,true,false] [] rfl (by and_intros <;> first | exact q1 | (rw [hlt]; exact decide_eq_false (by omega)) | (rw [hlt]; omega) | (rw [hz]; exact a1) | (rw [hz]; exact a2) | (simp; done) | exact oK) ?_
  refine At.loop (env0:=[(0,.string { data:=(99 :: t).toArray }),(5,.int .i64 0),(6,.int .i64 1)]) (fun m_ env bx hp => ∃ (k:Nat),m_=t.length - k∧(k≤t.length)∧(∀ c,c∈t.take k→48≤c.toNat∧c.toNat≤57)∧env=[(0,.string { data:=(99 :: t).toArray }),(5,.int .i64 (valP (t.take k):Nat)),(6,.int .i64 ((k+1:Nat):Int))]∧bx=[]∧hp=[]) rfl
    ⟨0,rfl,(by omega),(fun c hc=>by simp at hc),rfl,rfl,rfl⟩ sB ?_
  rintro m_ env bx hp ⟨k,rfl,hk,hd,rfl,rfl,rfl⟩ ih
  by_cases hkl:k < t.length
  · obtain⟨x,hx⟩:∃ x,t[k]?=some x:=⟨_,List.getElem?_eq_getElem hkl⟩
    have hmem:x∈t:=List.mem_of_getElem? hx
    have htk:t.take (k+1)=t.take k++[x]:=by rw [List.take_add_one,hx]; rfl
    have hgx:(bl ⟨((99:UInt8) :: t).toArray⟩)[((k+1:Nat):Int).toNat]?.getD 0=x:=by rw [hbl,Int.toNat_natCast,List.getElem?_cons_succ,hx]; rfl
    have hlk:decide (((k+1:Nat):Int) < ((bl ⟨((99:UInt8) :: t).toArray⟩).length:Int))=true:=decide_eq_true (by rw [hlt]; omega)
    by_cases h48:x.toNat < 48
    · rw [kind_none hh (.inl (numS_nodig hmem (by omega)))]
      refine At.go [true,true,true] [] rfl (by and_intros <;> first | exact hlk | (rw [hlt]; omega) | (rw [hgx]; exact decide_eq_true (by omega)) | exact oK) ?_
      refine At.rt [] [] [] Tryz.func69 ?_
      exact⟨rfl,rfl,rfl⟩
    by_cases h57:57 < x.toNat
    · rw [kind_none hh (.inl (numS_nodig hmem (by omega)))]
      refine At.go [true,false,true] [] rfl (by and_intros <;> first | exact hlk | (rw [hlt]; omega) | (rw [hgx]; exact decide_eq_false (by omega)) | (rw [hgx]; exact decide_eq_true (by omega)) | exact oK) ?_
      refine At.rt [] [] [] Tryz.func69 ?_
      exact⟨rfl,rfl,rfl⟩
    have hd2:∀ c,c∈t.take (k+1)→48≤c.toNat∧c.toNat≤57:=fun c hc=>by
      rw [htk] at hc
      rcases List.mem_append.1 hc with hc | hc
      · exact hd c hc
      · rw [List.mem_singleton] at hc; subst hc; omega
    have hv:valP (t.take (k+1))=10 * valP (t.take k)+(x.toNat - 48):=by rw [htk,valP_snoc]
    have hb:valP (t.take k) < 10000000000000:=valP_13 (by rw [List.length_take]; omega) fun c hc=>(hd c hc).2
    refine At.go [true,false,false] [] rfl (by and_intros <;> first | exact hlk | (rw [hlt]; omega) | (rw [hgx]; exact decide_eq_false (by omega)) | (rw [hgx]; omega) | exact oK) ?_
    rw [hgx,show (10:Int) * (valP (t.take k):Nat)+x.toNat - 48=((valP (t.take (k+1)):Nat):Int) by rw [hv]; omega]
    exact At.weak (ih _ _ _ _ (by omega) ⟨k+1,rfl,by omega,hd2,rfl,rfl,rfl⟩) sB
  · obtain rfl:k=t.length:=by omega
    rw [List.take_length] at hd ⊢
    have hlk:decide (((t.length+1:Nat):Int) < ((bl ⟨((99:UInt8) :: t).toArray⟩).length:Int))=false:=decide_eq_false (by rw [hlt]; omega)
    obtain⟨v,hv⟩:∃ v,valP t=v:=⟨_,rfl⟩
    have hb:valP t < 10000000000000:=valP_13 h13 fun c hc=>(hd c hc).2
    rw [hv] at hb ⊢
    by_cases hm:1099511627776 < v
    · have hn:numS t=none:=by
        cases hs:numS t with
        | none => rfl
        | some u => obtain⟨-,h2,h3⟩:=numS_some hs; omega
      rw [kind_none hh (.inl hn)]
      refine At.go [false,true] [] rfl (by and_intros <;> first | exact hlk | exact decide_eq_true (by omega) | exact oK) ?_
      refine At.rt [] [] [] Tryz.func69 ?_
      exact⟨rfl,rfl,rfl⟩
    have hS:∀ {S:Base}{bx:Bx}{hp:List Seg},CallOb Tryz.prog S bx hp 61 [.int .i64 v] (str (115 :: Lib.decDigits v)):=fun {_ _ _} w' _=>by
      have:=Tryz.rSegment_w (v:Int) w'; rwa [nmB_of (by omega)] at this
    have fC:∀ {S:Base}{bx:Bx}{hp:List Seg},CallOb Tryz.prog S bx hp 108 [.int .i64 v] (str (99 :: Lib.decDigits v)):=fun {_ _ _} w' _=>by
      have:=Tryz.rColumn_w (v:Int) w'; rwa [nmB_of (by omega)] at this
    by_cases hdt:Lib.decDigits v=t
    · have hn:numS t=some v:=by unfold numS; rw [hv,if_pos ⟨hdt,by omega⟩]
      rw [kind_some hh hn]
      have eS:decide (bl ⟨((115:UInt8) :: Lib.decDigits v).toArray⟩=bl ⟨((99:UInt8) :: t).toArray⟩)=false:=decide_eq_false (by rw [bl_of,bl_of]; intro h; injection h with h _; exact absurd h (by decide))
      have eC:decide (bl ⟨((99:UInt8) :: Lib.decDigits v).toArray⟩=bl ⟨((99:UInt8) :: t).toArray⟩)=true:=decide_eq_true (by rw [bl_of,bl_of,hdt])
      refine At.go [false,false,false,true] [hC (.string { data:=(115 :: Lib.decDigits v).toArray }),hC (.string { data:=(99 :: Lib.decDigits v).toArray })] rfl (by and_intros <;> first | exact hlk | exact hS | exact fC | exact eS | exact eC | exact decide_eq_false (by omega) | exact oK) ?_
      refine At.rt [] [] [] Tryz.func69 ?_
      exact⟨rfl,rfl,rfl⟩
    · have hn:numS t=none:=by
        cases hs:numS t with
        | none => rfl
        | some u => obtain⟨h2,-,h3⟩:=numS_some hs; rw [hv] at h3; subst h3; exact absurd h2 hdt
      rw [kind_none hh (.inl hn)]
      have eS:decide (bl ⟨((115:UInt8) :: Lib.decDigits v).toArray⟩=bl ⟨((99:UInt8) :: t).toArray⟩)=false:=decide_eq_false (by rw [bl_of,bl_of]; intro h; injection h with _ h; exact hdt h)
      have eC:decide (bl ⟨((99:UInt8) :: Lib.decDigits v).toArray⟩=bl ⟨((99:UInt8) :: t).toArray⟩)=false:=decide_eq_false (by rw [bl_of,bl_of]; intro h; injection h with _ h; exact hdt h)
      refine At.go [false,false,false,false] [hC (.string { data:=(115 :: Lib.decDigits v).toArray }),hC (.string { data:=(99 :: Lib.decDigits v).toArray })] rfl (by and_intros <;> first | exact hlk | exact hS | exact fC | exact eS | exact eC | exact decide_eq_false (by omega) | exact oK) ?_
      refine At.rt [] [] [] Tryz.func69 ?_
      exact⟨rfl,rfl,rfl⟩
theorem Tryz.rKind_w (l:List UInt8) (w:World) (hl:l.length≤9223372036854775807) :
    Fun Tryz.prog 69 [str l] w (.tuple #[.int .i64 (kindB l).1,.int .i64 (kindB l).2.1,.bool (kindB l).2.2]):=by
  have hbl:bl ⟨l.toArray⟩=l:=bl_of l
  by_cases hs:∃ (c:UInt8) (t:List UInt8),l=c :: t∧1≤t.length∧t.length≤13∧(c=115∨c=99)
  · obtain⟨c,t,rfl,h1,h13,hc⟩:=hs
    rcases hc with rfl | rfl
    · exact Tryz.rKind115_w t w h1 h13
    · exact Tryz.rKind99_w t w h1 h13
  refine Tri.enter (bx:=[]) (hp:=[]) Tryz.func69 rfl (by kernel_rfl) rfl (Own.nil w) ?_
  by_cases hh:l=headsB
  · subst hh
    refine At.go [true] [] rfl (by and_intros <;> first | exact decide_eq_true rfl | (simp; done) | exact oK) ?_
    refine At.rt [] [] [] Tryz.func69 ?_
    exact⟨rfl,rfl,rfl⟩
  have q1:decide (bl ⟨l.toArray⟩=bl ⟨#[104,101,97,100,115]⟩)=false:=decide_eq_false (by rw [hbl]; exact hh)
  by_cases h2:l.length < 2
  · have hk:kindB l=(0,0,false):=by
      match l,h2,hh with
      | [],_,_ => rfl
      | [c],_,hh => exact kind_none hh (.inl numS_nil)
    rw [hk]
    refine At.go [false,true,true,true] [] rfl (by and_intros <;> first | exact q1 | (rw [hbl]; exact decide_eq_true (by omega)) | (simp; done) | exact oK) ?_
    refine At.rt [] [] [] Tryz.func69 ?_
    exact⟨rfl,rfl,rfl⟩
  obtain⟨c,t,rfl⟩:∃ c t,l=c :: t:=by
    cases l with
    | nil => simp at h2
    | cons c t => exact⟨c,t,rfl⟩
  have hlt:(c :: t).length=t.length+1:=rfl
  by_cases h14:14 < (c :: t).length
  · rw [kind_none hh (.inl (numS_long (by omega)))]
    refine At.go [false,false,true,true] [] rfl (by and_intros <;> first | exact q1 | (rw [hbl]; exact decide_eq_false (by omega)) | (rw [hbl]; exact decide_eq_true (by omega)) | (simp; done) | exact oK) ?_
    refine At.rt [] [] [] Tryz.func69 ?_
    exact⟨rfl,rfl,rfl⟩
  by_cases hc:c≠115∧c≠99
  · rw [kind_none hh (.inr hc)]
    have c1:¬ ((c.toNat:Int)=115):=fun h=>hc.1 (UInt8.toNat_inj.1 (by have h10:(115:UInt8).toNat=115:=rfl; omega))
    have c2:¬ ((c.toNat:Int)=99):=fun h=>hc.2 (UInt8.toNat_inj.1 (by have h10:(99:UInt8).toNat=99:=rfl; omega))
    have d1:(!decide ((c.toNat:Int)=115))=true:=by rw [decide_eq_false c1]; rfl
    have d2:(!decide ((c.toNat:Int)=99))=true:=by rw [decide_eq_false c2]; rfl
    refine At.go [false,false,false,true,true] [] rfl (by and_intros <;> first | exact q1 | (rw [hbl]; exact decide_eq_false (by omega)) | (rw [hbl,hlt]; omega) | (rw [hbl]; exact d1) | (rw [hbl]; exact d2) | (simp; done) | exact oK) ?_
    refine At.rt [] [] [] Tryz.func69 ?_
    exact⟨rfl,rfl,rfl⟩
  exact absurd ⟨c,t,rfl,by omega,by omega,by
    by_cases h:c=115
    · exact .inl h
    · exact .inr (Classical.byContradiction fun h2=>hc ⟨h,h2⟩)⟩ hs
end Go.Proofs
