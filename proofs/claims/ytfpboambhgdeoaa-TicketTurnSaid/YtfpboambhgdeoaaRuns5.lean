/- TicketRuns: the closed runs of chapter 5 answer true, and nothing that was there changes. -/
import Derived.Test.YtfpboambhgdeoaaWith
namespace Go.Proofs.Ytfpboambhgdeoaa
open Go.RowKit

set_option maxHeartbeats 400000 in
theorem runs5 (w : World) : Calls Try.prog 13 #[] w fun e w' => e = .returned (.bool true) ∧ Chg [] w w' := by
  go_enter Try.func13, Try.ntmps13
  go_wp2_with fail
  refine (word_some2 _).mono ?_
  rintro e w1 ⟨m, l, rfl, hm1, gm, gl, hk1⟩
  have z1 := hm1.lt
  go_wp2_with fail
  refine (new_some _ _).mono ?_
  rintro e w2 ⟨x, rfl, hx2, gx, hk2⟩
  have zx := Blk.lt hx2
  have hm2 := hm1.chg hk2 (by simp) (by simp)
  have hK2 := hk1.trans hk2
  go_wp2_with fail
  refine (new_some _ _).mono ?_
  rintro e w3 ⟨y, rfl, hy3, gy, hk3⟩
  have hx3 := hx2.chg hk3 (by simp)
  have hm3 := hm2.chg hk3 (by simp) (by simp)
  have hK3 := hK2.trans hk3
  have nx := hm3.blkne hx3
  have ny := hm3.blkne hy3
  have nxy : x ≠ y := by omega
  clear hm1 hm2 hx2 hk1 hk2 hK2 hk3
  go_wp2_with fail
  refine (step_fresh x m l _ 0 0 (-1) w3 hx3 hm3 nx.1 nx.2 (by omega) (by simp) (by simp) (by omega) (by omega) (by simp) (by simp)).mono ?_
  rintro e w4 ⟨rfl, hx4, hm4, hk4⟩
  have hy4 := hy3.chg hk4 (by simp; omega)
  have hK4 : Chg [] w w4 := hK3.after hk4 (by simp; omega)
  clear hx3 hm3 hy3 hK3 hk4
  go_wp2_with fail
  refine (step_fresh y m l _ 0 _ (-1) w4 hy4 hm4 ny.1 ny.2 (by omega) (by simp) (by simp) (by omega) (by omega) (by simp) (by simp)).mono ?_
  rintro e w5 ⟨rfl, hy5, hm5, hk5⟩
  have hx5 := hx4.chg hk5 (by simp; omega)
  have hK5 : Chg [] w w5 := hK4.after hk5 (by simp; omega)
  clear hx4 hm4 hy4 hK4 hk5
  go_wp2_with fail
  refine (step_wait y m l _ 0 _ _ w5 hy5 hm5 ny.1 ny.2 (by simp) (by omega) (by simp) (by simp) (by omega) (by omega)).mono ?_
  rintro e w6 ⟨rfl, hy6, hm6, hk6⟩
  have hx6 := hx5.chg hk6 (by simp; omega)
  have hK6 : Chg [] w w6 := hK5.after hk6 (by simp; omega)
  clear hx5 hm5 hy5 hK5 hk6
  go_wp2_with fail
  refine (step_turn x m l _ 0 _ _ w6 hx6 hm6 nx.1 nx.2 (by simp) (by omega) (by simp) (by simp) (by omega) (by omega)).mono ?_
  rintro e w7 ⟨rfl, hx7, hm7, hk7⟩
  have hy7 := hy6.chg hk7 (by simp; omega)
  have hK7 : Chg [] w w7 := hK6.after hk7 (by simp; omega)
  clear hx6 hm6 hy6 hK6 hk7
  go_wp2_with fail
  refine (leave_ok x m l _ 0 _ _ w7 hx7 hm7 nx.1 nx.2 (by omega) (by simp) (by simp) (by omega) (by omega) (by simp) (by simp)).mono ?_
  rintro e w8 ⟨rfl, hx8, hm8, hk8⟩
  have hy8 := hy7.chg hk8 (by simp; omega)
  have hK8 : Chg [] w w8 := hK7.after hk8 (by simp; omega)
  clear hx7 hm7 hy7 hK7 hk8
  go_wp2_with fail
  refine (step_turn y m l _ 0 _ _ w8 hy8 hm8 ny.1 ny.2 (by simp) (by omega) (by simp) (by simp) (by omega) (by omega)).mono ?_
  rintro e w9 ⟨rfl, hy9, hm9, hk9⟩
  have hx9 := hx8.chg hk9 (by simp; omega)
  have hK9 : Chg [] w w9 := hK8.after hk9 (by simp; omega)
  clear hx8 hm8 hy8 hK8 hk9
  go_wp2_with fail
  refine (where_any y _ _ _ w9 hy9).mono ?_
  rintro e w' ⟨rfl, rfl⟩
  go_wp2_with fail
  refine (where_any x _ _ _ w9 hx9).mono ?_
  rintro e w' ⟨rfl, rfl⟩
  go_wp2_with fail
  refine (ticket_any y _ _ _ w9 hy9).mono ?_
  rintro e w' ⟨rfl, rfl⟩
  go_wp2_with fail
  refine (count_any m l _ _ w9 hm9).mono ?_
  rintro e w' ⟨rfl, rfl⟩
  go_wp2_with fail
  go_ret
  exact ⟨by simp, hK9⟩
end Go.Proofs.Ytfpboambhgdeoaa
