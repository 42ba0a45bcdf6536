/- Contracts of ticket.Try: New, At, Ticket, Step, Leave. -/
import Derived.Test.YtfpboambhgdeoaaTick
import Derived.StillTailTactics
namespace Go.Proofs.Ytfpboambhgdeoaa
open Go.RowKit

/-- a try: its lock's address, where it is, its ticket -/
def TryB (w : World) (t : Nat) (a s k : Int) : Prop := Blk w t #[.int .i64 a, .int .i64 s, .int .i64 k] 72
theorem TryB.chg {w w' : World} {t : Nat} {a s k : Int} {S : List Nat} (h : TryB w t a s k) (c : Chg S w w') (hn : t ∉ S) : TryB w' t a s k := c.blk h hn

theorem new_any (a : Int) (w : World) :
    Calls Try.prog 9 #[.int .i64 a] w fun e w' => e = .returned (.pointer (some ⟨w.heap.size, 0, none⟩)) ∧ w.alloc (.cells #[.int .i64 a, .int .i64 0, .int .i64 (-1)] 72) = w' := by
  go_enter Try.func9, Try.ntmps9
  go_wp2
  go_ret
  exact ⟨rfl, rfl⟩

theorem where_any (t : Nat) (a s k : Int) (w : World) (h : TryB w t a s k) :
    Calls Try.prog 11 #[.pointer (some ⟨t, 0, none⟩)] w fun e w' => e = .returned (.int .i64 s) ∧ w = w' := by
  have h1 : w.cell? ⟨t, 1, none⟩ = some (.int .i64 s) := Blk.cell h 1
  go_enter Try.func11, Try.ntmps11
  go_wp2
  go_ret
  exact ⟨rfl, rfl⟩

theorem ticket_any (t : Nat) (a s k : Int) (w : World) (h : TryB w t a s k) :
    Calls Try.prog 14 #[.pointer (some ⟨t, 0, none⟩)] w fun e w' => e = .returned (.int .i64 k) ∧ w = w' := by
  have h1 : w.cell? ⟨t, 2, none⟩ = some (.int .i64 k) := Blk.cell h 2
  go_enter Try.func14, Try.ntmps14
  go_wp2
  go_ret
  exact ⟨rfl, rfl⟩

theorem count_any (m l : Nat) (xs : List Int) (c : Int) (w : World) (h : MemB w m l xs c) :
    Calls Try.prog 17 #[.pointer (some ⟨m, 0, none⟩)] w fun e w' => e = .returned (.int .i64 c) ∧ w = w' := by
  have h1 : w.cell? ⟨m, 1, none⟩ = some (.int .i64 c) := h.head.cell 1
  go_enter Try.func17, Try.ntmps17
  go_wp2
  go_ret
  exact ⟨rfl, rfl⟩

section
variable (t m l : Nat) (xs : List Int) (a c k : Int) (w : World)

theorem step_fresh (h : TryB w t a 0 k) (hm : MemB w m l xs c) (ht : t ≠ m) (ht' : t ≠ l)
    (h0 : 0 ≤ a) (h1 : a < xs.length) (hx : xs.length ≤ 4096) (c0 : 0 ≤ c) (c1 : c ≤ 100000) (b0 : 0 ≤ xs.getD a.toNat 0) (b1 : xs.getD a.toNat 0 ≤ 100000) :
    Calls Try.prog 10 #[.pointer (some ⟨t, 0, none⟩), .pointer (some ⟨m, 0, none⟩)] w fun e w' =>
      e = .returned (.bool false) ∧ TryB w' t a 1 (xs.getD a.toNat 0) ∧ MemB w' m l (xs.set a.toNat (xs.getD a.toNat 0 + 1)) (c + 1) ∧ Chg [t, m, l] w w' := by
  have g0 : w.cell? ⟨t, 0, none⟩ = some (.int .i64 a) := Blk.cell h 0
  have g1 : w.cell? ⟨t, 1, none⟩ = some (.int .i64 0) := Blk.cell h 1
  obtain ⟨ys, hys⟩ : ∃ ys, ys = xs.set a.toNat (xs.getD a.toNat 0 + 1) := ⟨_, rfl⟩
  have hadd := add_ok m l xs c a 1 w hm h0 h1 hx c0 c1 b0 b1 (by omega) (by omega)
  rw [← hys] at hadd ⊢
  clear hys
  generalize xs.getD a.toNat 0 = x at *
  have HA := hid hadd
  clear hadd
  go_enter Try.func10, Try.ntmps10
  go_wp2_with (go_at_call 42; refine HA.out.mono ?_; rintro e w1 ⟨rfl, hm1, hk1⟩; have h2 := h.chg hk1 (by simp; omega); have q2 : w1.cell? ⟨t, 2, none⟩ = some (.int .i64 k) := Blk.cell h2 2; have q1 : w1.cell? ⟨t, 1, none⟩ = some (.int .i64 0) := Blk.cell h2 1; have f2 : w1.frozen? ⟨t, 2, none⟩ = false := Blk.frz h2 2; have f1 : w1.frozen? ⟨t, 1, none⟩ = false := Blk.frz h2 1)
  go_ret
  refine ⟨rfl, ?_, (hm1.chg ((Chg.refl [t] _).set (by simp) _ _) (by simp; omega) (by simp; omega)).chg ((Chg.refl [t] _).set (by simp) _ _) (by simp; omega) (by simp; omega), ((hk1.mono (by simp)).set (by simp) _ _).set (by simp) _ _⟩
  simpa [TryB] using (Blk.set h2 2 (.int .i64 x)).set 1 (.int .i64 1)

theorem step_turn (h : TryB w t a 1 k) (hm : MemB w m l xs c) (ht : t ≠ m) (ht' : t ≠ l) (hxk : xs.getD (a.toNat + 1) 0 = k)
    (h0 : 0 ≤ a) (h1 : a + 1 < xs.length) (hx : xs.length ≤ 4096) (c0 : 0 ≤ c) (c1 : c ≤ 100000) :
    Calls Try.prog 10 #[.pointer (some ⟨t, 0, none⟩), .pointer (some ⟨m, 0, none⟩)] w fun e w' =>
      e = .returned (.bool true) ∧ TryB w' t a 2 k ∧ MemB w' m l xs (c + 1) ∧ Chg [t, m] w w' := by
  have g0 : w.cell? ⟨t, 0, none⟩ = some (.int .i64 a) := Blk.cell h 0
  have g1 : w.cell? ⟨t, 1, none⟩ = some (.int .i64 1) := Blk.cell h 1
  have g2 : w.cell? ⟨t, 2, none⟩ = some (.int .i64 k) := Blk.cell h 2
  have hld := load_ok m l xs c (a + 1) w.drew ⟨hm.head, hm.body, hm.ne⟩ (by omega) h1 hx c0 c1
  rw [show (a + 1).toNat = a.toNat + 1 from by omega] at hld
  generalize xs.getD (a.toNat + 1) 0 = x at *
  have HA := hid hld
  clear hld
  have HB := hid (show (x == k) = true from beq_iff_eq.2 hxk)
  clear hxk
  go_enter Try.func10, Try.ntmps10
  go_wp2_with fail
  have hwr : IntKind.i64.wrap (a + 1) = a + 1 := IntWalk.i64_in _ (by omega)
  go_region_with (go_at_call 18; refine HA.out.mono ?_; rintro e w1 ⟨rfl, hm1, hk1⟩; have h2 := TryB.chg (w := w.drew) h hk1 (by simp; omega); have q2 : w1.cell? ⟨t, 2, none⟩ = some (.int .i64 k) := Blk.cell h2 2; have q1 : w1.cell? ⟨t, 1, none⟩ = some (.int .i64 1) := Blk.cell h2 1; have f1 : w1.frozen? ⟨t, 1, none⟩ = false := Blk.frz h2 1)
  all_goals
    have hb := HB.out
    go_wp2
    go_ret
    refine ⟨rfl, ?_, hm1.chg ((Chg.refl [t] _).set (by simp) _ _) (by simp; omega) (by simp; omega), (Chg.mono (a := w) ⟨hk1.os, hk1.tape, hk1.output, hk1.size, hk1.block⟩ (by simp)).set (by simp) _ _⟩
    simpa [TryB] using Blk.set h2 1 (.int .i64 2)

theorem step_wait (h : TryB w t a 1 k) (hm : MemB w m l xs c) (ht : t ≠ m) (ht' : t ≠ l) (hxk : xs.getD (a.toNat + 1) 0 ≠ k)
    (h0 : 0 ≤ a) (h1 : a + 1 < xs.length) (hx : xs.length ≤ 4096) (c0 : 0 ≤ c) (c1 : c ≤ 100000) :
    Calls Try.prog 10 #[.pointer (some ⟨t, 0, none⟩), .pointer (some ⟨m, 0, none⟩)] w fun e w' =>
      e = .returned (.bool false) ∧ TryB w' t a 1 k ∧ MemB w' m l xs (c + 1) ∧ Chg [t, m] w w' := by
  have g0 : w.cell? ⟨t, 0, none⟩ = some (.int .i64 a) := Blk.cell h 0
  have g1 : w.cell? ⟨t, 1, none⟩ = some (.int .i64 1) := Blk.cell h 1
  have g2 : w.cell? ⟨t, 2, none⟩ = some (.int .i64 k) := Blk.cell h 2
  have hld := load_ok m l xs c (a + 1) w.drew ⟨hm.head, hm.body, hm.ne⟩ (by omega) h1 hx c0 c1
  rw [show (a + 1).toNat = a.toNat + 1 from by omega] at hld
  generalize xs.getD (a.toNat + 1) 0 = x at *
  have HA := hid hld
  clear hld
  have HB := hid (show (x == k) = false from beq_eq_false_iff_ne.2 hxk)
  clear hxk
  go_enter Try.func10, Try.ntmps10
  go_wp2_with fail
  have hwr : IntKind.i64.wrap (a + 1) = a + 1 := IntWalk.i64_in _ (by omega)
  go_region_with (go_at_call 18; refine HA.out.mono ?_; rintro e w1 ⟨rfl, hm1, hk1⟩; have h2 := TryB.chg (w := w.drew) h hk1 (by simp; omega); have q2 : w1.cell? ⟨t, 2, none⟩ = some (.int .i64 k) := Blk.cell h2 2; have q1 : w1.cell? ⟨t, 1, none⟩ = some (.int .i64 1) := Blk.cell h2 1; have f1 : w1.frozen? ⟨t, 1, none⟩ = false := Blk.frz h2 1)
  all_goals
    have hb := HB.out
    go_wp2
    go_ret
    exact ⟨rfl, h2, hm1, Chg.mono (a := w) ⟨hk1.os, hk1.tape, hk1.output, hk1.size, hk1.block⟩ (by simp)⟩

theorem step_holds (h : TryB w t a 2 k) :
    Calls Try.prog 10 #[.pointer (some ⟨t, 0, none⟩), .pointer (some ⟨m, 0, none⟩)] w fun e w' => e = .returned (.bool true) ∧ w = w' := by
  have g1 : w.cell? ⟨t, 1, none⟩ = some (.int .i64 2) := Blk.cell h 1
  go_enter Try.func10, Try.ntmps10
  go_wp2
  go_ret
  exact ⟨rfl, rfl⟩

theorem step_done (h : TryB w t a 3 k) :
    Calls Try.prog 10 #[.pointer (some ⟨t, 0, none⟩), .pointer (some ⟨m, 0, none⟩)] w fun e w' => e = stopped 9 a ∧ w = w' := by
  have g0 : w.cell? ⟨t, 0, none⟩ = some (.int .i64 a) := Blk.cell h 0
  have g1 : w.cell? ⟨t, 1, none⟩ = some (.int .i64 3) := Blk.cell h 1
  go_enter Try.func10, Try.ntmps10
  go_wp2_with (go_at_call 43; refine (stop_any _ _ _).mono ?_; rintro e w' ⟨rfl, rfl⟩)
  exact ⟨rfl, rfl, rfl⟩

theorem leave_ok (h : TryB w t a 2 k) (hm : MemB w m l xs c) (ht : t ≠ m) (ht' : t ≠ l)
    (h0 : 0 ≤ a) (h1 : a + 1 < xs.length) (hx : xs.length ≤ 4096) (c0 : 0 ≤ c) (c1 : c ≤ 100000) (b0 : 0 ≤ xs.getD (a.toNat + 1) 0) (b1 : xs.getD (a.toNat + 1) 0 ≤ 100000) :
    Calls Try.prog 12 #[.pointer (some ⟨t, 0, none⟩), .pointer (some ⟨m, 0, none⟩)] w fun e w' =>
      e = .returned (.tuple #[]) ∧ TryB w' t a 3 k ∧ MemB w' m l (xs.set (a.toNat + 1) (xs.getD (a.toNat + 1) 0 + 1)) (c + 1) ∧ Chg [t, m, l] w w' := by
  have g0 : w.cell? ⟨t, 0, none⟩ = some (.int .i64 a) := Blk.cell h 0
  have g1 : w.cell? ⟨t, 1, none⟩ = some (.int .i64 2) := Blk.cell h 1
  have e1 : (a + 1).toNat = a.toNat + 1 := by omega
  have hadd := add_ok m l xs c (a + 1) 1 w.drew ⟨hm.head, hm.body, hm.ne⟩ (by omega) h1 hx c0 c1 (by rw [e1]; exact b0) (by rw [e1]; exact b1) (by omega) (by omega)
  rw [e1] at hadd
  obtain ⟨ys, hys⟩ : ∃ ys, ys = xs.set (a.toNat + 1) (xs.getD (a.toNat + 1) 0 + 1) := ⟨_, rfl⟩
  rw [← hys] at hadd ⊢
  clear hys e1
  generalize xs.getD (a.toNat + 1) 0 = x at *
  have HA := hid hadd
  clear hadd
  go_enter Try.func12, Try.ntmps12
  go_wp2_with fail
  go_region_with (go_at_call 41; refine (must_ok _ _ _).mono ?_; rintro e w' ⟨rfl, rfl⟩)
  all_goals go_wp2_with ((go_at_call 42; refine HA.out.mono ?_; rintro e w1 ⟨rfl, hm1, hk1⟩; have h2 := TryB.chg (w := w.drew) h hk1 (by simp; omega); have f1 : w1.frozen? ⟨t, 1, none⟩ = false := Blk.frz h2 1; have q1 : w1.cell? ⟨t, 1, none⟩ = some (.int .i64 2) := Blk.cell h2 1))
  all_goals go_end0
  all_goals refine ⟨rfl, ?_, hm1.chg ((Chg.refl [t] _).set (by simp) _ _) (by simp; omega) (by simp; omega), (Chg.mono (a := w) ⟨hk1.os, hk1.tape, hk1.output, hk1.size, hk1.block⟩ (by simp)).set (by simp) _ _⟩
  all_goals simpa [TryB] using Blk.set h2 1 (.int .i64 3)

theorem leave_no (s : Int) (h : TryB w t a s k) (hs : s ≠ 2) :
    Calls Try.prog 12 #[.pointer (some ⟨t, 0, none⟩), .pointer (some ⟨m, 0, none⟩)] w fun e w' => e = stopped 6 a ∧ w.drew = w' := by
  have g0 : w.cell? ⟨t, 0, none⟩ = some (.int .i64 a) := Blk.cell h 0
  have g1 : w.cell? ⟨t, 1, none⟩ = some (.int .i64 s) := Blk.cell h 1
  have hb : (s == 2) = false := beq_eq_false_iff_ne.2 hs
  clear hs
  go_enter Try.func12, Try.ntmps12
  go_wp2_with fail
  go_still_tail 9, (by kernel_rfl)
  change wpList _ _ _ _ _ w.drew
  generalize hw2 : w.drew = w2
  have HW := hid hw2
  clear hw2
  go_wp2_with (go_at_call 41; refine (must_no _ _ _).mono ?_; rintro e w' ⟨rfl, rfl⟩)
  exact ⟨rfl, rfl, HW.out⟩
end
end Go.Proofs.Ytfpboambhgdeoaa
