/- cloisterbook.Within brings a number into its bounds; word.New. -/
import Derived.Test.YtfpboambhgdeoaaTry
import Derived.Deep.OwnRows
namespace Go.Proofs.Ytfpboambhgdeoaa
open Go.RowKit

def SomeIn (lo hi : Int) (w : World) (e : Ending) (w' : World) : Prop := ∃ r : Int, lo ≤ r ∧ r ≤ hi ∧ e = .returned (.int .i64 r) ∧ w = w'
theorem within_any (n lo hi : Int) (w : World) (hn : -9223372036854775808 ≤ n ∧ n ≤ 9223372036854775807) (h0 : 0 ≤ lo) (h1 : lo ≤ hi) (h2 : hi ≤ 100000) :
    Calls Try.prog 7 #[.int .i64 n, .int .i64 lo, .int .i64 hi] w (SomeIn lo hi w) := by
  obtain ⟨n1, n2⟩ := hn
  have b1 : n.tmod (hi - lo + 1) < hi - lo + 1 := Int.tmod_lt_of_pos _ (by omega)
  have b2 : -(hi - lo + 1) < n.tmod (hi - lo + 1) := Int.lt_tmod_of_pos _ (by omega)
  go_enter Try.func7, Try.ntmps7
  go_wp2
  all_goals go_ret
  all_goals exact ⟨_, by omega, by omega, rfl, rfl⟩

theorem int_info : (Try.prog.info? 3).map (fun i => (i.zero, i.size, i.bytes)) = some (some (.int .i64 0), 1, 8) := by kernel_rfl
theorem word_new2 (w : World) :
    Calls Try.prog 8 #[.int .i64 2] w fun e w' => e = .returned (.pointer (some ⟨w.heap.size + 1, 0, none⟩)) ∧ MemB w' (w.heap.size + 1) w.heap.size (List.replicate 2 0) 0 ∧ Chg [] w w' := by
  have hmk : ∀ w : World, (Instr.makeSlice 22 (.int .i64 2) (.int .i64 2)).run Try.prog w = .ok (.slice (some ⟨w.heap.size, 0, none⟩) 2 2) (w.alloc (.cells (wds (List.replicate 2 0)) 3)) := fun _ => by kernel_rfl
  go_enter Try.func8, Try.ntmps8
  go_wp2_with (go_at_call 41; refine (must_ok _ _ _).mono ?_; rintro e w' ⟨rfl, rfl⟩)
  go_ret
  refine ⟨rfl, ⟨?_, (Blk.fresh _ _ _).alloc _, by omega⟩, ((Chg.refl _ _).alloc _).alloc _⟩
  have := Blk.fresh (w.alloc (.cells (wds (List.replicate 2 0)) 3)) #[.slice (some ⟨w.heap.size, 0, none⟩) 2 2, .int .i64 0] 70
  simpa using this
theorem word_new6 (w : World) :
    Calls Try.prog 8 #[.int .i64 6] w fun e w' => e = .returned (.pointer (some ⟨w.heap.size + 1, 0, none⟩)) ∧ MemB w' (w.heap.size + 1) w.heap.size (List.replicate 6 0) 0 ∧ Chg [] w w' := by
  have hmk : ∀ w : World, (Instr.makeSlice 22 (.int .i64 6) (.int .i64 6)).run Try.prog w = .ok (.slice (some ⟨w.heap.size, 0, none⟩) 6 6) (w.alloc (.cells (wds (List.replicate 6 0)) 3)) := fun _ => by kernel_rfl
  go_enter Try.func8, Try.ntmps8
  go_wp2_with (go_at_call 41; refine (must_ok _ _ _).mono ?_; rintro e w' ⟨rfl, rfl⟩)
  go_ret
  refine ⟨rfl, ⟨?_, (Blk.fresh _ _ _).alloc _, by omega⟩, ((Chg.refl _ _).alloc _).alloc _⟩
  have := Blk.fresh (w.alloc (.cells (wds (List.replicate 6 0)) 3)) #[.slice (some ⟨w.heap.size, 0, none⟩) 6 6, .int .i64 0] 70
  simpa using this

def TNew (a : Int) (w : World) (e : Ending) (w' : World) : Prop := ∃ t : Nat, e = .returned (.pointer (some ⟨t, 0, none⟩)) ∧ TryB w' t a 0 (-1) ∧ w.heap.size ≤ t ∧ Chg [] w w'
theorem new_some (a : Int) (w : World) : Calls Try.prog 9 #[.int .i64 a] w (TNew a w) :=
  (new_any a w).mono fun e w' ⟨he, hw⟩ => ⟨w.heap.size, he, by rw [← hw]; exact Blk.fresh _ _ _, Nat.le_refl _, by rw [← hw]; exact (Chg.refl _ _).alloc _⟩
def MNew (k : Nat) (w : World) (e : Ending) (w' : World) : Prop := ∃ m l : Nat, e = .returned (.pointer (some ⟨m, 0, none⟩)) ∧ MemB w' m l (List.replicate k 0) 0 ∧ w.heap.size ≤ m ∧ w.heap.size ≤ l ∧ Chg [] w w'
theorem word_some2 (w : World) : Calls Try.prog 8 #[.int .i64 2] w (MNew 2 w) :=
  (word_new2 w).mono fun e w' ⟨he, hm, hk⟩ => ⟨_, _, he, hm, by omega, by omega, hk⟩
theorem word_some6 (w : World) : Calls Try.prog 8 #[.int .i64 6] w (MNew 6 w) :=
  (word_new6 w).mono fun e w' ⟨he, hm, hk⟩ => ⟨_, _, he, hm, by omega, by omega, hk⟩
theorem MemB.blkne {w : World} {m l : Nat} {xs : List Int} {c : Int} (h : MemB w m l xs c) {t : Nat} {a s k : Int} (ht : TryB w t a s k) : t ≠ m ∧ t ≠ l :=
  ⟨Blk.ne_ ht h.head (by decide), Blk.ne_ ht h.body (by decide)⟩
theorem MemB.lt {w : World} {m l : Nat} {xs : List Int} {c : Int} (h : MemB w m l xs c) : m < w.heap.size ∧ l < w.heap.size := ⟨h.head.lt, h.body.lt⟩
end Go.Proofs.Ytfpboambhgdeoaa
