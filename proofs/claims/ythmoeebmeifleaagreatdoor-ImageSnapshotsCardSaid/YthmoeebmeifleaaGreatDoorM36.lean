/-
  Walks of layer 13: books put.
-/
import Derived.Test.YthmoeebmeifleaaGreatDoorM7
import Derived.Test.YthmoeebmeifleaaGreatDoorM11
import Derived.Test.YthmoeebmeifleaaGreatDoorM8
import Derived.Test.YthmoeebmeifleaaGreatDoorM20
import Derived.Test.YthmoeebmeifleaaGreatDoorM19
/-
  Walks of layer 13: books put.
-/
namespace Go.Proofs
open Go Go.Eng
set_option maxRecDepth 100000
set_option maxHeartbeats 4000000
attribute [local irreducible] Tri

/-- A field's functions: it is read by the first one, as the i-th number. -/
def GetOk (P : Program) (sz i F : Nat) : Prop := ∀ (x : List Int) (w : World), x.length = sz → Fun P F [.agg ⟨i64s x⟩] w (.int .i64 (nthI x i))

theorem Tryz.holders1_w : GetOk Tryz.prog 4 0 148 := by
  intro x w hx
  obtain ⟨x0, x1, x2, x3, rfl⟩ := len4 hx
  refine Tri.enter (bx := []) (hp := []) Tryz.func148 rfl (by kernel_rfl) rfl (Own.nil w) ?_
  refine At.run 100 true [] [] rfl trivial ?_
  refine At.step [] rfl rfl rfl rfl rfl trivial (OpOk.box rfl rfl rfl fun bq hbq => ?_)
  refine At.run 100 true [] [hB 0] rfl oK ?_
  exact At.retK [] [] [] rfl rfl Tryz.func148 rfl trivial ⟨rfl, rfl, rfl⟩

theorem Tryz.holders3_w : GetOk Tryz.prog 4 1 150 := by
  intro x w hx
  obtain ⟨x0, x1, x2, x3, rfl⟩ := len4 hx
  refine Tri.enter (bx := []) (hp := []) Tryz.func150 rfl (by kernel_rfl) rfl (Own.nil w) ?_
  refine At.run 100 true [] [] rfl trivial ?_
  refine At.step [] rfl rfl rfl rfl rfl trivial (OpOk.box rfl rfl rfl fun bq hbq => ?_)
  refine At.run 100 true [] [hB 0] rfl oK ?_
  exact At.retK [] [] [] rfl rfl Tryz.func150 rfl trivial ⟨rfl, rfl, rfl⟩

theorem Tryz.holders5_w : GetOk Tryz.prog 4 2 152 := by
  intro x w hx
  obtain ⟨x0, x1, x2, x3, rfl⟩ := len4 hx
  refine Tri.enter (bx := []) (hp := []) Tryz.func152 rfl (by kernel_rfl) rfl (Own.nil w) ?_
  refine At.run 100 true [] [] rfl trivial ?_
  refine At.step [] rfl rfl rfl rfl rfl trivial (OpOk.box rfl rfl rfl fun bq hbq => ?_)
  refine At.run 100 true [] [hB 0] rfl oK ?_
  exact At.retK [] [] [] rfl rfl Tryz.func152 rfl trivial ⟨rfl, rfl, rfl⟩

theorem Tryz.holders7_w : GetOk Tryz.prog 4 3 154 := by
  intro x w hx
  obtain ⟨x0, x1, x2, x3, rfl⟩ := len4 hx
  refine Tri.enter (bx := []) (hp := []) Tryz.func154 rfl (by kernel_rfl) rfl (Own.nil w) ?_
  refine At.run 100 true [] [] rfl trivial ?_
  refine At.step [] rfl rfl rfl rfl rfl trivial (OpOk.box rfl rfl rfl fun bq hbq => ?_)
  refine At.run 100 true [] [hB 0] rfl oK ?_
  exact At.retK [] [] [] rfl rfl Tryz.func154 rfl trivial ⟨rfl, rfl, rfl⟩

def Tryz.holdersL : List Value := [.func (.func 148) ⟨[]⟩ ⟨[]⟩, .func (.func 149) ⟨[]⟩ ⟨[]⟩, .func (.func 150) ⟨[]⟩ ⟨[]⟩, .func (.func 151) ⟨[]⟩ ⟨[]⟩, .func (.func 152) ⟨[]⟩ ⟨[]⟩, .func (.func 153) ⟨[]⟩ ⟨[]⟩, .func (.func 154) ⟨[]⟩ ⟨[]⟩, .func (.func 155) ⟨[]⟩ ⟨[]⟩]

theorem Tryz.holders_w (w : World) : Tri Tryz.prog 85 [] w [] (fun v bx hp => ∃ b, v = sv (some b) 4 4 ∧ bx = [(b, 246, Tryz.holdersL)] ∧ hp = []) := by
  refine Tri.enter (bx := []) (hp := []) Tryz.func85 rfl (by kernel_rfl) rfl (Own.nil w) ?_
  refine At.run 100 true [] [] rfl trivial ?_
  refine At.step [] rfl rfl rfl rfl rfl trivial (OpOk.buildSlice rfl rfl rfl rfl rfl rfl rfl (fun b hb => ?_))
  refine At.run 100 true [] [] rfl oK ?_
  exact At.ret [] rfl Tryz.func85 rfl trivial ⟨b, rfl, rfl, rfl⟩

theorem Tryz.holdersL_get (i : Nat) (hi : i < 4) : ∃ F G, Tryz.holdersL[i * 2]? = some (.func (.func F) ⟨[]⟩ ⟨[]⟩) ∧ Tryz.holdersL[i * 2 + 1]? = some (.func (.func G) ⟨[]⟩ ⟨[]⟩) ∧ GetOk Tryz.prog 4 i F := by
  match i, hi with
  | 0, _ => exact ⟨_, _, rfl, rfl, Tryz.holders1_w⟩
  | 1, _ => exact ⟨_, _, rfl, rfl, Tryz.holders3_w⟩
  | 2, _ => exact ⟨_, _, rfl, rfl, Tryz.holders5_w⟩
  | 3, _ => exact ⟨_, _, rfl, rfl, Tryz.holders7_w⟩

end Go.Proofs

/-
  Walks of layer 13: books put.
-/
namespace Go.Proofs
open Go Go.Eng
set_option maxRecDepth 100000
set_option maxHeartbeats 4000000
attribute [local irreducible] Tri


theorem Tryz.stakes1_w : GetOk Tryz.prog 3 0 156 := by
  intro x w hx
  obtain ⟨x0, x1, x2, rfl⟩ := len3 hx
  refine Tri.enter (bx := []) (hp := []) Tryz.func156 rfl (by kernel_rfl) rfl (Own.nil w) ?_
  refine At.run 100 true [] [] rfl trivial ?_
  refine At.step [] rfl rfl rfl rfl rfl trivial (OpOk.box rfl rfl rfl fun bq hbq => ?_)
  refine At.run 100 true [] [hB 0] rfl oK ?_
  exact At.retK [] [] [] rfl rfl Tryz.func156 rfl trivial ⟨rfl, rfl, rfl⟩

theorem Tryz.stakes3_w : GetOk Tryz.prog 3 1 158 := by
  intro x w hx
  obtain ⟨x0, x1, x2, rfl⟩ := len3 hx
  refine Tri.enter (bx := []) (hp := []) Tryz.func158 rfl (by kernel_rfl) rfl (Own.nil w) ?_
  refine At.run 100 true [] [] rfl trivial ?_
  refine At.step [] rfl rfl rfl rfl rfl trivial (OpOk.box rfl rfl rfl fun bq hbq => ?_)
  refine At.run 100 true [] [hB 0] rfl oK ?_
  exact At.retK [] [] [] rfl rfl Tryz.func158 rfl trivial ⟨rfl, rfl, rfl⟩

theorem Tryz.stakes5_w : GetOk Tryz.prog 3 2 160 := by
  intro x w hx
  obtain ⟨x0, x1, x2, rfl⟩ := len3 hx
  refine Tri.enter (bx := []) (hp := []) Tryz.func160 rfl (by kernel_rfl) rfl (Own.nil w) ?_
  refine At.run 100 true [] [] rfl trivial ?_
  refine At.step [] rfl rfl rfl rfl rfl trivial (OpOk.box rfl rfl rfl fun bq hbq => ?_)
  refine At.run 100 true [] [hB 0] rfl oK ?_
  exact At.retK [] [] [] rfl rfl Tryz.func160 rfl trivial ⟨rfl, rfl, rfl⟩

def Tryz.stakesL : List Value := [.func (.func 156) ⟨[]⟩ ⟨[]⟩, .func (.func 157) ⟨[]⟩ ⟨[]⟩, .func (.func 158) ⟨[]⟩ ⟨[]⟩, .func (.func 159) ⟨[]⟩ ⟨[]⟩, .func (.func 160) ⟨[]⟩ ⟨[]⟩, .func (.func 161) ⟨[]⟩ ⟨[]⟩]

theorem Tryz.stakes_w (w : World) : Tri Tryz.prog 87 [] w [] (fun v bx hp => ∃ b, v = sv (some b) 3 3 ∧ bx = [(b, 251, Tryz.stakesL)] ∧ hp = []) := by
  refine Tri.enter (bx := []) (hp := []) Tryz.func87 rfl (by kernel_rfl) rfl (Own.nil w) ?_
  refine At.run 100 true [] [] rfl trivial ?_
  refine At.step [] rfl rfl rfl rfl rfl trivial (OpOk.buildSlice rfl rfl rfl rfl rfl rfl rfl (fun b hb => ?_))
  refine At.run 100 true [] [] rfl oK ?_
  exact At.ret [] rfl Tryz.func87 rfl trivial ⟨b, rfl, rfl, rfl⟩

theorem Tryz.stakesL_get (i : Nat) (hi : i < 3) : ∃ F G, Tryz.stakesL[i * 2]? = some (.func (.func F) ⟨[]⟩ ⟨[]⟩) ∧ Tryz.stakesL[i * 2 + 1]? = some (.func (.func G) ⟨[]⟩ ⟨[]⟩) ∧ GetOk Tryz.prog 3 i F := by
  match i, hi with
  | 0, _ => exact ⟨_, _, rfl, rfl, Tryz.stakes1_w⟩
  | 1, _ => exact ⟨_, _, rfl, rfl, Tryz.stakes3_w⟩
  | 2, _ => exact ⟨_, _, rfl, rfl, Tryz.stakes5_w⟩

end Go.Proofs

/-
  Walks of layer 13: books put.
-/
namespace Go.Proofs
open Go Go.Eng
set_option maxRecDepth 100000
set_option maxHeartbeats 4000000
attribute [local irreducible] Tri


theorem Tryz.opens1_w : GetOk Tryz.prog 6 0 162 := by
  intro x w hx
  obtain ⟨x0, x1, x2, x3, x4, x5, rfl⟩ := len6 hx
  refine Tri.enter (bx := []) (hp := []) Tryz.func162 rfl (by kernel_rfl) rfl (Own.nil w) ?_
  refine At.run 100 true [] [] rfl trivial ?_
  refine At.step [] rfl rfl rfl rfl rfl trivial (OpOk.box rfl rfl rfl fun bq hbq => ?_)
  refine At.run 100 true [] [hB 0] rfl oK ?_
  exact At.retK [] [] [] rfl rfl Tryz.func162 rfl trivial ⟨rfl, rfl, rfl⟩

theorem Tryz.opens3_w : GetOk Tryz.prog 6 1 164 := by
  intro x w hx
  obtain ⟨x0, x1, x2, x3, x4, x5, rfl⟩ := len6 hx
  refine Tri.enter (bx := []) (hp := []) Tryz.func164 rfl (by kernel_rfl) rfl (Own.nil w) ?_
  refine At.run 100 true [] [] rfl trivial ?_
  refine At.step [] rfl rfl rfl rfl rfl trivial (OpOk.box rfl rfl rfl fun bq hbq => ?_)
  refine At.run 100 true [] [hB 0] rfl oK ?_
  exact At.retK [] [] [] rfl rfl Tryz.func164 rfl trivial ⟨rfl, rfl, rfl⟩

theorem Tryz.opens5_w : GetOk Tryz.prog 6 2 166 := by
  intro x w hx
  obtain ⟨x0, x1, x2, x3, x4, x5, rfl⟩ := len6 hx
  refine Tri.enter (bx := []) (hp := []) Tryz.func166 rfl (by kernel_rfl) rfl (Own.nil w) ?_
  refine At.run 100 true [] [] rfl trivial ?_
  refine At.step [] rfl rfl rfl rfl rfl trivial (OpOk.box rfl rfl rfl fun bq hbq => ?_)
  refine At.run 100 true [] [hB 0] rfl oK ?_
  exact At.retK [] [] [] rfl rfl Tryz.func166 rfl trivial ⟨rfl, rfl, rfl⟩

theorem Tryz.opens7_w : GetOk Tryz.prog 6 3 168 := by
  intro x w hx
  obtain ⟨x0, x1, x2, x3, x4, x5, rfl⟩ := len6 hx
  refine Tri.enter (bx := []) (hp := []) Tryz.func168 rfl (by kernel_rfl) rfl (Own.nil w) ?_
  refine At.run 100 true [] [] rfl trivial ?_
  refine At.step [] rfl rfl rfl rfl rfl trivial (OpOk.box rfl rfl rfl fun bq hbq => ?_)
  refine At.run 100 true [] [hB 0] rfl oK ?_
  exact At.retK [] [] [] rfl rfl Tryz.func168 rfl trivial ⟨rfl, rfl, rfl⟩

theorem Tryz.opens9_w : GetOk Tryz.prog 6 4 170 := by
  intro x w hx
  obtain ⟨x0, x1, x2, x3, x4, x5, rfl⟩ := len6 hx
  refine Tri.enter (bx := []) (hp := []) Tryz.func170 rfl (by kernel_rfl) rfl (Own.nil w) ?_
  refine At.run 100 true [] [] rfl trivial ?_
  refine At.step [] rfl rfl rfl rfl rfl trivial (OpOk.box rfl rfl rfl fun bq hbq => ?_)
  refine At.run 100 true [] [hB 0] rfl oK ?_
  exact At.retK [] [] [] rfl rfl Tryz.func170 rfl trivial ⟨rfl, rfl, rfl⟩

theorem Tryz.opens11_w : GetOk Tryz.prog 6 5 172 := by
  intro x w hx
  obtain ⟨x0, x1, x2, x3, x4, x5, rfl⟩ := len6 hx
  refine Tri.enter (bx := []) (hp := []) Tryz.func172 rfl (by kernel_rfl) rfl (Own.nil w) ?_
  refine At.run 100 true [] [] rfl trivial ?_
  refine At.step [] rfl rfl rfl rfl rfl trivial (OpOk.box rfl rfl rfl fun bq hbq => ?_)
  refine At.run 100 true [] [hB 0] rfl oK ?_
  exact At.retK [] [] [] rfl rfl Tryz.func172 rfl trivial ⟨rfl, rfl, rfl⟩

def Tryz.opensL : List Value := [.func (.func 162) ⟨[]⟩ ⟨[]⟩, .func (.func 163) ⟨[]⟩ ⟨[]⟩, .func (.func 164) ⟨[]⟩ ⟨[]⟩, .func (.func 165) ⟨[]⟩ ⟨[]⟩, .func (.func 166) ⟨[]⟩ ⟨[]⟩, .func (.func 167) ⟨[]⟩ ⟨[]⟩, .func (.func 168) ⟨[]⟩ ⟨[]⟩, .func (.func 169) ⟨[]⟩ ⟨[]⟩, .func (.func 170) ⟨[]⟩ ⟨[]⟩, .func (.func 171) ⟨[]⟩ ⟨[]⟩, .func (.func 172) ⟨[]⟩ ⟨[]⟩, .func (.func 173) ⟨[]⟩ ⟨[]⟩]

theorem Tryz.opens_w (w : World) : Tri Tryz.prog 89 [] w [] (fun v bx hp => ∃ b, v = sv (some b) 6 6 ∧ bx = [(b, 256, Tryz.opensL)] ∧ hp = []) := by
  refine Tri.enter (bx := []) (hp := []) Tryz.func89 rfl (by kernel_rfl) rfl (Own.nil w) ?_
  refine At.run 100 true [] [] rfl trivial ?_
  refine At.step [] rfl rfl rfl rfl rfl trivial (OpOk.buildSlice rfl rfl rfl rfl rfl rfl rfl (fun b hb => ?_))
  refine At.run 100 true [] [] rfl oK ?_
  exact At.ret [] rfl Tryz.func89 rfl trivial ⟨b, rfl, rfl, rfl⟩

theorem Tryz.opensL_get (i : Nat) (hi : i < 6) : ∃ F G, Tryz.opensL[i * 2]? = some (.func (.func F) ⟨[]⟩ ⟨[]⟩) ∧ Tryz.opensL[i * 2 + 1]? = some (.func (.func G) ⟨[]⟩ ⟨[]⟩) ∧ GetOk Tryz.prog 6 i F := by
  match i, hi with
  | 0, _ => exact ⟨_, _, rfl, rfl, Tryz.opens1_w⟩
  | 1, _ => exact ⟨_, _, rfl, rfl, Tryz.opens3_w⟩
  | 2, _ => exact ⟨_, _, rfl, rfl, Tryz.opens5_w⟩
  | 3, _ => exact ⟨_, _, rfl, rfl, Tryz.opens7_w⟩
  | 4, _ => exact ⟨_, _, rfl, rfl, Tryz.opens9_w⟩
  | 5, _ => exact ⟨_, _, rfl, rfl, Tryz.opens11_w⟩

end Go.Proofs

/-
  Walks of layer 13: books put.
-/
namespace Go.Proofs
open Go Go.Eng
set_option maxRecDepth 100000
set_option maxHeartbeats 4000000
attribute [local irreducible] Tri


theorem Tryz.rates1_w : GetOk Tryz.prog 2 0 174 := by
  intro x w hx
  obtain ⟨x0, x1, rfl⟩ := len2 hx
  refine Tri.enter (bx := []) (hp := []) Tryz.func174 rfl (by kernel_rfl) rfl (Own.nil w) ?_
  refine At.run 100 true [] [] rfl trivial ?_
  refine At.step [] rfl rfl rfl rfl rfl trivial (OpOk.box rfl rfl rfl fun bq hbq => ?_)
  refine At.run 100 true [] [hB 0] rfl oK ?_
  exact At.retK [] [] [] rfl rfl Tryz.func174 rfl trivial ⟨rfl, rfl, rfl⟩

theorem Tryz.rates3_w : GetOk Tryz.prog 2 1 176 := by
  intro x w hx
  obtain ⟨x0, x1, rfl⟩ := len2 hx
  refine Tri.enter (bx := []) (hp := []) Tryz.func176 rfl (by kernel_rfl) rfl (Own.nil w) ?_
  refine At.run 100 true [] [] rfl trivial ?_
  refine At.step [] rfl rfl rfl rfl rfl trivial (OpOk.box rfl rfl rfl fun bq hbq => ?_)
  refine At.run 100 true [] [hB 0] rfl oK ?_
  exact At.retK [] [] [] rfl rfl Tryz.func176 rfl trivial ⟨rfl, rfl, rfl⟩

def Tryz.ratesL : List Value := [.func (.func 174) ⟨[]⟩ ⟨[]⟩, .func (.func 175) ⟨[]⟩ ⟨[]⟩, .func (.func 176) ⟨[]⟩ ⟨[]⟩, .func (.func 177) ⟨[]⟩ ⟨[]⟩]

theorem Tryz.rates_w (w : World) : Tri Tryz.prog 91 [] w [] (fun v bx hp => ∃ b, v = sv (some b) 2 2 ∧ bx = [(b, 261, Tryz.ratesL)] ∧ hp = []) := by
  refine Tri.enter (bx := []) (hp := []) Tryz.func91 rfl (by kernel_rfl) rfl (Own.nil w) ?_
  refine At.run 100 true [] [] rfl trivial ?_
  refine At.step [] rfl rfl rfl rfl rfl trivial (OpOk.buildSlice rfl rfl rfl rfl rfl rfl rfl (fun b hb => ?_))
  refine At.run 100 true [] [] rfl oK ?_
  exact At.ret [] rfl Tryz.func91 rfl trivial ⟨b, rfl, rfl, rfl⟩

theorem Tryz.ratesL_get (i : Nat) (hi : i < 2) : ∃ F G, Tryz.ratesL[i * 2]? = some (.func (.func F) ⟨[]⟩ ⟨[]⟩) ∧ Tryz.ratesL[i * 2 + 1]? = some (.func (.func G) ⟨[]⟩ ⟨[]⟩) ∧ GetOk Tryz.prog 2 i F := by
  match i, hi with
  | 0, _ => exact ⟨_, _, rfl, rfl, Tryz.rates1_w⟩
  | 1, _ => exact ⟨_, _, rfl, rfl, Tryz.rates3_w⟩

end Go.Proofs
