/-
  Walks of layer 32: changes as lines.
-/
import Derived.Test.YtgkphfipielnhaaDoorM17
import Derived.Test.YtgkphfipielnhaaDoorM18
import Derived.Test.YtgkphfipielnhaaDoorM16
import Derived.Test.YtgkphfipielnhaaDoorM7
import Derived.Test.YtgkphfipielnhaaDoorM23
import Derived.Test.YtgkphfipielnhaaDoorM26
import Derived.Test.YtgkphfipielnhaaDoorM24
import Derived.Test.YtgkphfipielnhaaDoorM12
/-
  Walks of layer 32: changes as lines.
-/
namespace Go.Proofs
open Go Go.Eng
set_option maxRecDepth 100000
set_option maxHeartbeats 4000000
attribute [local irreducible] Tri

abbrev K3T := Int × Int × Int
/-- A change as it lies in memory. -/
structure ChE where
  k : K3T
  was : List Int
  wa : Option Addr
  wc : Nat
  is : List Int
  ia : Option Addr
  ic : Nat
def chC (e : ChE) : List Value := [.int .i64 e.k.1, .int .i64 e.k.2.1, .int .i64 e.k.2.2, .slice e.wa e.was.length e.wc, .slice e.ia e.is.length e.ic]
theorem chC_one (e : ChE) : ∀ v, v ∈ chC e → v.oneCell' = true := by intro v hv; simp only [chC, List.mem_cons, List.not_mem_nil, or_false] at hv; rcases hv with rfl | rfl | rfl | rfl | rfl <;> rfl
def toB (e : ChE) : ChB := ⟨e.k.1, e.k.2.1, e.k.2.2, e.was, e.is⟩
structure ChFit (w : World) (e : ChE) : Prop where
  k1 : inK .i64 e.k.1
  k2 : inK .i64 e.k.2.1
  k3 : inK .i64 e.k.2.2
  wa : SlOk w e.wa (i64s e.was)
  ia : SlOk w e.ia (i64s e.is)
  wi : ∀ x, x ∈ e.was → inK .i64 x
  ii : ∀ x, x ∈ e.is → inK .i64 x
theorem ChFit.ext {w w' : World} {e : ChE} (h : ChFit w e) (he : Ext [] w w') : ChFit w' e := ⟨h.k1, h.k2, h.k3, h.wa.ext he (by simp), h.ia.ext he (by simp), h.wi, h.ii⟩
theorem chC_ne {L : List ChE} {e : ChE} {i : Nat} (h : L[i]? = some e) : L.flatMap chC ≠ [] := by
  intro e2
  have := List.flatMap_eq_nil_iff.1 e2 e (List.mem_of_getElem? h)
  cases this
theorem RdW.ch {S : Base} {bx : Bx} {hp : List Seg} {g o i : Nat} {L : List ChE} {e : ChE} (hc : ∀ j u, (L.flatMap chC)[j]? = some u → S.w0.cell? ⟨g, o + j, none⟩ = some u) (hm : g ∉ S.mods) (hx : L[i]? = some e) (f : Nat) (v : Value) (hv : (chC e)[f]? = some v) :
    RdW S bx hp g (o + (i : Int).toNat * 5 + f) [v] := RdW.base1 hm (by rw [Int.toNat_natCast, Nat.add_assoc]; exact hc _ _ (flat_get (f := chC) (sz := 5) (fun _ _ => rfl) hx f _ hv))
theorem RdW.chE {S : Base} {bx : Bx} {hp : List Seg} {g o i : Nat} {L : List ChE} {e : ChE} (hc : ∀ j u, (L.flatMap chC)[j]? = some u → S.w0.cell? ⟨g, o + j, none⟩ = some u) (hm : g ∉ S.mods) (hx : L[i]? = some e) {off : Nat} (ho : off = o + i * 5) :
    RdW S bx hp g off (chC e) := RdW.sl (b := g) (o := o) (xs := L.flatMap chC) hc hm (i * 5) ho fun j u hu => flat_get (f := chC) (sz := 5) (fun _ _ => rfl) hx j u hu

/-- The table of the lists' names. -/
def Tryd.Lst (w : World) : Prop := SlOk w (some ⟨0, 0, none⟩) (listT.map str)
theorem listT_get {k : Nat} {s : List UInt8} (h : listT[k]? = some s) : listB k = s := by
  have hk := (List.getElem?_eq_some_iff.1 h).1
  have h6 : listT.length = 6 := rfl
  unfold listB
  rw [if_pos (by omega), Int.toNat_natCast, List.getD_eq_getElem?_getD, h]; rfl
theorem RdW.lst {w : World} {bx : Bx} {hp : List Seg} (hW : Tryd.Lst w) {k : Nat} {s : List UInt8} (h : listT[k]? = some s) {off : Nat} (ho : off = k) : RdW ⟨w, kys [] []⟩ bx hp 0 off [str s] := by
  subst ho
  obtain ⟨b, o, hb, hc⟩ := hW.get (by decide)
  cases hb
  exact RdW.base1 (by simp [kys]) (by have := hc off (str s) (by rw [List.getElem?_map, h]; rfl); rw [Nat.zero_add] at this; exact this)
theorem Tryd.lname_w (k : Int) (w : World) (hW : Tryd.Lst w) : Fun Tryd.prog 51 [.int .i64 k] w (str (listB k)) := by
  refine Tri.enter (bx := []) (hp := []) Tryd.func51 rfl (by kernel_rfl) rfl (Own.nil w) ?_
  have r0 : ∀ {bx : Bx} {hp : List Seg}, RdW ⟨w, kys [] []⟩ bx hp 0 (0 + Int.toNat 0 * 1) [str [63]] := fun {_ _} => RdW.lst hW (k := 0) rfl rfl
  by_cases h0 : k < 0
  · have hb : listB k = [63] := by unfold listB; rw [if_neg (by omega)]
    rw [hb]
    refine At.go [true, true] [hR [.string { data := #[63] }]] rfl (by and_intros <;> first | exact r0 | exact decide_eq_true h0 | exact oK) ?_
    refine At.rt [] [] [] Tryd.func51 ?_
    exact ⟨rfl, rfl, rfl⟩
  · by_cases h6 : 6 ≤ k
    · have hb : listB k = [63] := by unfold listB; rw [if_neg (by omega)]
      rw [hb]
      refine At.go [false, true] [hR [.string { data := #[63] }]] rfl (by and_intros <;> first | exact r0 | exact decide_eq_false h0 | exact decide_eq_true h6 | exact oK) ?_
      refine At.rt [] [] [] Tryd.func51 ?_
      exact ⟨rfl, rfl, rfl⟩
    · obtain ⟨j, rfl⟩ : ∃ j : Nat, k = j := ⟨k.toNat, by omega⟩
      obtain ⟨s, hs⟩ : ∃ s, listT[j]? = some s := ⟨_, List.getElem?_eq_getElem (show j < listT.length by have : listT.length = 6 := rfl; omega)⟩
      rw [listT_get hs]
      have r1 : ∀ {bx : Bx} {hp : List Seg}, RdW ⟨w, kys [] []⟩ bx hp 0 (0 + (j : Int).toNat * 1) [str s] := fun {_ _} => RdW.lst hW hs (by omega)
      refine At.go [false, false] [hR [.string { data := s.toArray }]] rfl (by and_intros <;> first | exact r1 | exact decide_eq_false h0 | exact decide_eq_false h6 | exact oK) ?_
      refine At.rt [] [] [] Tryd.func51 ?_
      exact ⟨rfl, rfl, rfl⟩
theorem Tryd.Of_w (L : List ChE) (a : Option Addr) (ca : Nat) (w : World) (hl : L.length ≤ 1000000000) (ha : SlOk w a (L.flatMap chC)) :
    Tri Tryd.prog 20 [.slice a L.length ca] w [] (fun v bx hp => bx = [] ∧ ∃ (g : Option Nat) (c : Nat), v = sv g L.length c ∧ hp = [Seg.row g 111 5 L.length c (L.flatMap chC)]) := by
  refine Tri.enter (bx := []) (hp := []) Tryd.func20 rfl (by kernel_rfl) rfl (Own.nil w) ?_
  refine At.go [] [] rfl oK ?_
  refine At.nilRow 111 5 ?_
  refine At.loop (env0 := [(0, .slice a L.length ca), (3, .slice none 0 0), (4, .int .i64 0)]) (fun m_ env bx hp => ∃ (i : Nat) (g : Option Nat) (c : Nat), m_ = L.length - i ∧ (i ≤ L.length) ∧ env = [(0, .slice a L.length ca), (3, sv g i c), (4, .int .i64 i)] ∧ bx = [] ∧ hp = [Seg.row g 111 5 i c ((L.take i).flatMap chC)]) rfl
    ⟨0, none, 0, rfl, (by omega), rfl, rfl, rfl⟩ sB ?_
  rintro m_ env bx hp ⟨i, g, c, rfl, hi, rfl, rfl, rfl⟩ ih
  by_cases hlt : i < L.length
  · obtain ⟨e, hx⟩ : ∃ e, L[i]? = some e := ⟨_, List.getElem?_eq_getElem hlt⟩
    obtain ⟨g, o, rfl, hc⟩ := ha.get (chC_ne hx)
    have hm : g ∉ (⟨w, kys [] []⟩ : Base).mods := by simp [kys]
    have rT : ∀ {bx : Bx} {hp : List Seg} (f : Nat) (v : Value), (chC e)[f]? = some v → RdW ⟨w, kys [] []⟩ bx hp g (o + (i : Int).toNat * 5 + f) [v] := fun {_ _} => RdW.ch hc hm hx
    have hnx : (L.take (i + 1)).flatMap chC = (L.take i).flatMap chC ++ chC e := by rw [List.take_add_one, hx, List.flatMap_append]; simp
    refine At.go [true] [] rfl (by and_intros <;> first | exact rT 0 _ rfl | exact rT 1 _ rfl | exact rT 2 _ rfl | exact rT 3 _ rfl | exact rT 4 _ rfl | exact oK) ?_
    refine At.dr 30 ?_
    refine AtD.pu [0, 1, 2, 6, 7, 11, 12, 16, 17, 21, 22] 19 rfl (by and_intros <;> first | exact rT 0 _ rfl | exact rT 1 _ rfl | exact rT 2 _ rfl | exact rT 3 _ rfl | exact rT 4 _ rfl | exact oK) ?_
    refine AtD.pu [3, 8, 13, 18, 23] 14 rfl (by and_intros <;> first | exact rT 0 _ rfl | exact rT 1 _ rfl | exact rT 2 _ rfl | exact rT 3 _ rfl | exact rT 4 _ rfl | exact oK) ?_
    refine AtD.pu [4, 9, 14, 19, 24] 9 rfl (by and_intros <;> first | exact rT 0 _ rfl | exact rT 1 _ rfl | exact rT 2 _ rfl | exact rT 3 _ rfl | exact rT 4 _ rfl | exact oK) ?_
    refine AtD.lx [5, 10, 15, 20, 25] 4 [] [hR [.int .i64 e.k.fst], hR [.int .i64 e.k.snd.fst], hR [.int .i64 e.k.snd.snd], hR [.slice e.wa e.was.length e.wc], hR [.slice e.ia e.is.length e.ic]] rfl (by and_intros <;> first | exact rT 0 _ rfl | exact rT 1 _ rfl | exact rT 2 _ rfl | exact rT 3 _ rfl | exact rT 4 _ rfl | exact oK) ?_
    refine AtD.pu [26] 3 rfl (by and_intros <;> first | exact rT 0 _ rfl | exact rT 1 _ rfl | exact rT 2 _ rfl | exact rT 3 _ rfl | exact rT 4 _ rfl | exact oK) ?_
    refine AtD.f1r 27 (OpOk.buildSlice rfl rfl rfl rfl rfl rfl rfl (fun bs hbs => ?_))
    refine AtD.f1r 28 (OpOk.append 0 5 72 (chC e) rfl rfl rfl rfl rfl rfl rfl (RdW.blk0 (i := 0) rfl) rfl (chC_one _) (by omega) (by omega) fun g3 c3 => ?_)
    rw [← hnx]
    refine AtD.pu [29] 0 rfl oK ?_
    refine AtD.dn ?_
    refine At.go [] [] rfl oK ?_
    refine At.keep [false] [true] rfl ?_
    exact At.weak (ih _ _ _ _ (by omega) ⟨i + 1, g3, c3, rfl, by omega, rfl, rfl, rfl⟩) sB
  · obtain rfl : i = L.length := by omega
    refine At.go [false] [] rfl oK ?_
    rw [List.take_length]
    refine At.rt [] [true] [] Tryd.func20 ?_
    exact ⟨rfl, _, _, rfl, rfl⟩
/-- Numbers that lie in a known block. -/
theorem Tryd.numbersB_w {S : Base} (hS : Tryd.Pow S.w0) (hm : S.mods = []) {bx : Bx} {hp : List Seg} {q : Nat} {xs : List Int} (i : Nat) (h : nth bx i = some (q, 2, i64s xs)) (hx : ∀ x, x ∈ xs → inK .i64 x) (hl : xs.length ≤ 1000000) : CallOb Tryd.prog S bx hp 44 [.slice (some ⟨q, 0, none⟩) xs.length xs.length] (str (numsB xs)) := fun w' hw' =>
  Tryd.numbers_w xs _ _ w' hx hl (SlOk.blk (hw'.bx _ (nth_mem h))) (tab_ext hS (hm ▸ hw'.ext))
theorem Tryd.rNumbersB_w {S : Base} {bx : Bx} {hp : List Seg} {q : Nat} {xs : List Int} (i : Nat) (h : nth bx i = some (q, 2, i64s xs)) (hx : ∀ x, x ∈ xs → inK .i64 x) (hl : xs.length ≤ 1000000) : CallOb Tryd.prog S bx hp 48 [.slice (some ⟨q, 0, none⟩) xs.length xs.length] (str (numsB xs)) := fun w' hw' =>
  Tryd.rNumbers_w xs _ _ w' hx hl (SlOk.blk (hw'.bx _ (nth_mem h)))
theorem Tryd.changes_w (L : List ChE) (a : Option Addr) (ca : Nat) (w : World) (hl : L.length ≤ 60) (ha : SlOk w a (L.flatMap chC)) (hL : ∀ e, e ∈ L → ChFit w e ∧ e.was.length ≤ 20 ∧ e.is.length ≤ 20) (hT : Tryd.Pow w) (hW : Tryd.Lst w) :
    Fun Tryd.prog 19 [.slice a L.length ca] w (str (chsB (L.map toB))) := by
  have hcl : ∀ i, (chsB ((L.take i).map toB)).length ≤ 60000 := fun i => by
    have := chsB_len (l := (L.take i).map toB) (fun c hc => by
      obtain ⟨e, he, rfl⟩ := List.mem_map.1 hc
      obtain ⟨h1, h2, h3⟩ := hL e (List.mem_of_mem_take he)
      exact chB_len h1.k2 h1.k3 h1.wi h1.ii h2 h3)
    rw [List.length_map, List.length_take] at this; omega
  refine Tri.enter (bx := []) (hp := []) Tryd.func19 rfl (by kernel_rfl) rfl (Own.nil w) ?_
  refine At.go [] [] rfl oK ?_
  refine At.al fun b3 hb3 => ?_
  refine At.go [] [] rfl oK ?_
  refine At.nilRow 5 1 ?_
  refine At.loop (env0 := [(3, .pointer (some ⟨b3, 0, none⟩)), (4, .func (Fn.func 51) ⟨[]⟩ ⟨[]⟩), (7, .slice a L.length ca), (8, .int .i64 ↑L.length), (9, .int .i64 0)]) (fun m_ env bx hp => ∃ (i : Nat) (p : Value) (out : List UInt8) (g : Option Nat) (c : Nat), m_ = L.length - i ∧ (i ≤ L.length) ∧ (out = chsB ((L.take i).map toB)) ∧ (ownPtr b3 p) ∧ (out = [] → g = none ∧ c = 0) ∧ env = [(3, .pointer (some ⟨b3, 0, none⟩)), (4, .func (Fn.func 51) ⟨[]⟩ ⟨[]⟩), (7, .slice a L.length ca), (8, .int .i64 ↑L.length), (9, .int .i64 i)] ∧ bx = [(b3, 109, [p, sv g out.length c])] ∧ hp = [Seg.row g 5 1 out.length c (u8s out)]) rfl
    ⟨0, .pointer none, [], none, 0, rfl, (by omega), (rfl), (.inl rfl), (fun _ => ⟨rfl, rfl⟩), rfl, rfl, rfl⟩ sB ?_
  rintro m_ env bx hp ⟨i, p, out, g, c, rfl, hi, ho, hp0, hz, rfl, rfl, rfl⟩ ih
  have hol := hcl i
  rw [← ho] at hol
  by_cases hlt : i < L.length
  · obtain ⟨e, hx⟩ : ∃ e, L[i]? = some e := ⟨_, List.getElem?_eq_getElem hlt⟩
    obtain ⟨ge, o, rfl, hc⟩ := ha.get (chC_ne hx)
    obtain ⟨hfe, hwl, hil⟩ := hL e (List.mem_of_getElem? hx)
    have hnx : chsB ((L.take (i + 1)).map toB) = out ++ chB (toB e) := by rw [List.take_add_one, hx, List.map_append, ho]; exact chsB_snoc _ _
    have r : ∀ {bx : Bx} {hp : List Seg}, RdW ⟨w, kys [] []⟩ bx hp ge (o + (i : Int).toNat * 5) [.int .i64 e.k.1, .int .i64 e.k.2.1, .int .i64 e.k.2.2, .slice e.wa e.was.length e.wc, .slice e.ia e.is.length e.ic] := fun {_ _} => RdW.chE hc (by simp [kys]) hx (by omega)
    have hN : ∀ {bx : Bx} {hp : List Seg}, CallOb Tryd.prog ⟨w, kys [] []⟩ bx hp 51 [.int .i64 e.k.1] (str (listB e.k.1)) := fun {_ _} w' hw' => Tryd.lname_w e.k.1 w' (hW.ext hw'.ext (by simp [kys]))
    have hA : ∀ {bx : Bx} {hp : List Seg} {q : Nat}, nth bx 0 = some (q, 2, i64s [e.k.2.1, e.k.2.2]) → CallOb Tryd.prog ⟨w, kys [] []⟩ bx hp 44 [.slice (some ⟨q, 0, none⟩) 2 2] (str (numsB [e.k.2.1, e.k.2.2])) := fun {_ _ _} h => Tryd.numbersB_w hT rfl (xs := [e.k.2.1, e.k.2.2]) 0 h (by intro x hx; simp at hx; rcases hx with rfl | rfl; exact hfe.k2; exact hfe.k3) (by simp)
    have hQ1 : ∀ {bx : Bx} {hp : List Seg}, CallOb Tryd.prog ⟨w, kys [] []⟩ bx hp 44 [.slice e.wa e.was.length e.wc] (str (numsB e.was)) := fun {_ _} w' hw' => Tryd.numbers_w _ _ _ w' hfe.wi (by omega) (hfe.wa.ext hw'.ext (by simp [kys])) (tab_ext hT hw'.ext)
    have hQ2 : ∀ {bx : Bx} {hp : List Seg}, CallOb Tryd.prog ⟨w, kys [] []⟩ bx hp 44 [.slice e.ia e.is.length e.ic] (str (numsB e.is)) := fun {_ _} w' hw' => Tryd.numbers_w _ _ _ w' hfe.ii (by omega) (hfe.ia.ext hw'.ext (by simp [kys])) (tab_ext hT hw'.ext)
    have hz1 := listB_len e.k.1
    have hz2 := numsB_len (xs := [e.k.2.1, e.k.2.2]) (by intro x hx; simp at hx; rcases hx with rfl | rfl; exact hfe.k2; exact hfe.k3)
    have hz3 := numsB_len hfe.wi
    have hz4 := numsB_len hfe.ii
    have hz5 : [e.k.2.1, e.k.2.2].length = 2 := rfl
    have hb58 : bl ⟨#[58]⟩ = [58] := rfl
    have hb3 : bl ⟨#[32, 45, 62]⟩ = [32, 45, 62] := rfl
    have hb10 : bl ⟨#[10]⟩ = [10] := rfl
    have hW2 : ∀ w', WOk ⟨w, kys [] []⟩ [(b3, 109, [p, sv g out.length c])] [Seg.row g 5 1 out.length c (u8s out)] w' → Tri Tryd.prog 52 [.pointer (some ⟨b3, 0, none⟩), str (chB (toB e))] w' (kys [(b3, 109, [p, sv g out.length c])] [Seg.row g 5 1 out.length c (u8s out)]) (fun _ bx hp => ∃ a' c', bx = [(b3, 109, [.pointer (some ⟨b3, 0, none⟩), sv a' (out ++ chB (toB e)).length c'])] ∧ hp = [Seg.row a' 5 1 (out ++ chB (toB e)).length c' (u8s (out ++ chB (toB e)))]) := fun w' hw' => Tryd.writeStr_w b3 p g c out (chB (toB e)) w' hp0 (by
      have h1 := chB_len (c := toB e) hfe.k2 hfe.k3 hfe.wi hfe.ii hwl hil
      omega) hw'.toOwn
    refine At.go [true] [hR [.int .i64 e.k.fst, .int .i64 e.k.snd.fst, .int .i64 e.k.snd.snd, .slice e.wa e.was.length e.wc, .slice e.ia e.is.length e.ic]] rfl (by and_intros <;> first | exact r | (simp [Value.oneCell']; done) | exact oK) ?_
    refine At.al fun b6 hb6 => ?_
    refine At.go [] [hB 0] rfl (by and_intros <;> first | exact r | (simp [Value.oneCell']; done) | exact oK) ?_
    refine At.dr 23 ?_
    refine AtD.pu [0, 1, 4, 6, 12, 17] 17 rfl (by and_intros <;> first | exact r | (simp [Value.oneCell']; done) | exact oK) ?_
    refine AtH.readsK [true, false] [false] [2, 5, 7, 13, 18] [hB 0, hB 0, hB 0, hB 0, hB 0] rfl rfl (by and_intros <;> first | exact r | (simp [Value.oneCell']; done) | exact oK) rfl rfl (fuel := 12) ?_
    refine AtH.fork2 3 8 (by kernel_rfl) rfl rfl rfl rfl rfl rfl (OpOk.one true [] [hC (str (listB e.k.1))] rfl hN ⟨fun w hw => hw.selK [true, false] [false], ?_⟩) (OpOk.buildSlice rfl rfl rfl rfl rfl rfl rfl (fun b21 hb21 => ⟨fun w hw => hw.selK [false, true, false] [false], ?_⟩))
    · refine AtH.f1 8 rfl (OpOk.buildSlice rfl rfl rfl rfl rfl rfl rfl (fun b21 hb21 => ⟨fun w hw => hw.selK [false, true, false] [false], ?_⟩))
      refine AtH.f1 9 rfl (OpOk.one true [] [hC (.string { data := (numsB [e.k.snd.fst, e.k.snd.snd]).toArray })] rfl (by first | exact hA rfl | exact hQ1 | exact hQ2 | (simp only [bl_of, hb58, hb3, hb10, List.length_append, List.length_cons, List.length_nil]; omega) | exact oK) ⟨fun w hw => hw.selK [false, true, false] [false], ?_⟩)
      refine AtH.reK [10] [] rfl (by and_intros <;> first | exact hA rfl | exact hQ1 | exact hQ2 | (simp only [bl_of, hb58, hb3, hb10, List.length_append, List.length_cons, List.length_nil]; omega) | exact oK) rfl rfl (fuel := 8) ?_
      refine AtH.reK [11] [] rfl (by and_intros <;> first | exact hA rfl | exact hQ1 | exact hQ2 | (simp only [bl_of, hb58, hb3, hb10, List.length_append, List.length_cons, List.length_nil]; omega) | exact oK) rfl rfl (fuel := 7) ?_
      refine AtH.f1 14 rfl (OpOk.one true [] [hC (.string { data := (numsB e.was).toArray })] rfl (by first | exact hA rfl | exact hQ1 | exact hQ2 | (simp only [bl_of, hb58, hb3, hb10, List.length_append, List.length_cons, List.length_nil]; omega) | exact oK) ⟨fun w hw => hw.selK [false, true, false] [false], ?_⟩)
      refine AtH.reK [15] [] rfl (by and_intros <;> first | exact hA rfl | exact hQ1 | exact hQ2 | (simp only [bl_of, hb58, hb3, hb10, List.length_append, List.length_cons, List.length_nil]; omega) | exact oK) rfl rfl (fuel := 5) ?_
      refine AtH.reK [16] [] rfl (by and_intros <;> first | exact hA rfl | exact hQ1 | exact hQ2 | (simp only [bl_of, hb58, hb3, hb10, List.length_append, List.length_cons, List.length_nil]; omega) | exact oK) rfl rfl (fuel := 4) ?_
      refine AtH.f1 19 rfl (OpOk.one true [] [hC (.string { data := (numsB e.is).toArray })] rfl (by first | exact hA rfl | exact hQ1 | exact hQ2 | (simp only [bl_of, hb58, hb3, hb10, List.length_append, List.length_cons, List.length_nil]; omega) | exact oK) ⟨fun w hw => hw.selK [false, true, false] [false], ?_⟩)
      refine AtH.f1 20 rfl (OpOk.one true [] [] rfl (by and_intros <;> first | exact hA rfl | exact hQ1 | exact hQ2 | (simp only [bl_of, hb58, hb3, hb10, List.length_append, List.length_cons, List.length_nil]; omega) | exact oK) ⟨fun w hw => hw.selK [false, true, false] [false], ?_⟩)
      refine AtH.f1 21 rfl (OpOk.one true [] [] rfl (by and_intros <;> first | exact hA rfl | exact hQ1 | exact hQ2 | (simp only [bl_of, hb58, hb3, hb10, List.length_append, List.length_cons, List.length_nil]; omega) | exact oK) ⟨fun w hw => hw.selK [false, true, false] [false], ?_⟩)
      refine AtH.f1 22 rfl (OpOk.callM [false, false, true] [true] rfl rfl (fun w' hw' => hW2 w' (hw'.selK [false, false, true] [true])) ?_)
      rintro _ _ _ ⟨g2, c2, rfl, rfl⟩
      refine ⟨fun w hw => hw.selK [false, false, true] [false], ?_⟩
      refine AtH.dn ?_
      refine At.go [] [] rfl oK ?_
      refine At.keep [true, false, false] [true] rfl ?_
      exact At.weak (ih _ _ _ _ (by omega) ⟨i + 1, .pointer (some ⟨b3, 0, none⟩), out ++ chB (toB e), g2, c2, rfl, by omega, hnx.symm, .inr rfl, fun h => absurd h (by simp [chB_ne]), rfl, rfl, rfl⟩) sB
    · refine AtH.f1 3 rfl (OpOk.one true [] [hC (.string { data := (listB e.k.fst).toArray })] rfl (by first | exact hN | exact hA rfl | exact hQ1 | exact hQ2 | (simp only [bl_of, hb58, hb3, hb10, List.length_append, List.length_cons, List.length_nil]; omega) | exact oK) ⟨fun w hw => hw.selK [false, true, false] [false], ?_⟩)
      refine AtH.f1 9 rfl (OpOk.one true [] [hC (.string { data := (numsB [e.k.snd.fst, e.k.snd.snd]).toArray })] rfl (by first | exact hN | exact hA rfl | exact hQ1 | exact hQ2 | (simp only [bl_of, hb58, hb3, hb10, List.length_append, List.length_cons, List.length_nil]; omega) | exact oK) ⟨fun w hw => hw.selK [false, true, false] [false], ?_⟩)
      refine AtH.reK [10] [] rfl (by and_intros <;> first | exact hN | exact hA rfl | exact hQ1 | exact hQ2 | (simp only [bl_of, hb58, hb3, hb10, List.length_append, List.length_cons, List.length_nil]; omega) | exact oK) rfl rfl (fuel := 8) ?_
      refine AtH.reK [11] [] rfl (by and_intros <;> first | exact hN | exact hA rfl | exact hQ1 | exact hQ2 | (simp only [bl_of, hb58, hb3, hb10, List.length_append, List.length_cons, List.length_nil]; omega) | exact oK) rfl rfl (fuel := 7) ?_
      refine AtH.f1 14 rfl (OpOk.one true [] [hC (.string { data := (numsB e.was).toArray })] rfl (by first | exact hN | exact hA rfl | exact hQ1 | exact hQ2 | (simp only [bl_of, hb58, hb3, hb10, List.length_append, List.length_cons, List.length_nil]; omega) | exact oK) ⟨fun w hw => hw.selK [false, true, false] [false], ?_⟩)
      refine AtH.reK [15] [] rfl (by and_intros <;> first | exact hN | exact hA rfl | exact hQ1 | exact hQ2 | (simp only [bl_of, hb58, hb3, hb10, List.length_append, List.length_cons, List.length_nil]; omega) | exact oK) rfl rfl (fuel := 5) ?_
      refine AtH.reK [16] [] rfl (by and_intros <;> first | exact hN | exact hA rfl | exact hQ1 | exact hQ2 | (simp only [bl_of, hb58, hb3, hb10, List.length_append, List.length_cons, List.length_nil]; omega) | exact oK) rfl rfl (fuel := 4) ?_
      refine AtH.f1 19 rfl (OpOk.one true [] [hC (.string { data := (numsB e.is).toArray })] rfl (by first | exact hN | exact hA rfl | exact hQ1 | exact hQ2 | (simp only [bl_of, hb58, hb3, hb10, List.length_append, List.length_cons, List.length_nil]; omega) | exact oK) ⟨fun w hw => hw.selK [false, true, false] [false], ?_⟩)
      refine AtH.f1 20 rfl (OpOk.one true [] [] rfl (by and_intros <;> first | exact hN | exact hA rfl | exact hQ1 | exact hQ2 | (simp only [bl_of, hb58, hb3, hb10, List.length_append, List.length_cons, List.length_nil]; omega) | exact oK) ⟨fun w hw => hw.selK [false, true, false] [false], ?_⟩)
      refine AtH.f1 21 rfl (OpOk.one true [] [] rfl (by and_intros <;> first | exact hN | exact hA rfl | exact hQ1 | exact hQ2 | (simp only [bl_of, hb58, hb3, hb10, List.length_append, List.length_cons, List.length_nil]; omega) | exact oK) ⟨fun w hw => hw.selK [false, true, false] [false], ?_⟩)
      refine AtH.f1 22 rfl (OpOk.callM [false, false, true] [true] rfl rfl (fun w' hw' => hW2 w' (hw'.selK [false, false, true] [true])) ?_)
      rintro _ _ _ ⟨g2, c2, rfl, rfl⟩
      refine ⟨fun w hw => hw.selK [false, false, true] [false], ?_⟩
      refine AtH.dn ?_
      refine At.go [] [] rfl oK ?_
      refine At.keep [true, false, false] [true] rfl ?_
      exact At.weak (ih _ _ _ _ (by omega) ⟨i + 1, .pointer (some ⟨b3, 0, none⟩), out ++ chB (toB e), g2, c2, rfl, by omega, hnx.symm, .inr rfl, fun h => absurd h (by simp [chB_ne]), rfl, rfl, rfl⟩) sB
  · obtain rfl : i = L.length := by omega
    refine At.go [false] [] rfl oK ?_
    refine At.step [] rfl rfl rfl rfl rfl trivial (OpOk.callM [true] [true] rfl rfl (fun w' hw' => Tryd.bldStr_w b3 p g c out w' (by omega) hz (hw'.toOwn.sel [true] [true] rfl)) ?_)
    rintro v _ _ ⟨rfl, rfl, rfl⟩
    refine At.go [] [] rfl oK ?_
    refine At.rt [] [] [] Tryd.func19 ?_
    exact ⟨by rw [ho, List.take_length]; rfl, rfl, rfl⟩
end Go.Proofs
