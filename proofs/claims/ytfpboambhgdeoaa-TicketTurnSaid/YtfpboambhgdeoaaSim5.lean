/- The plain law of TicketTurn: tries in the order of their tickets, picked round and round. No program. -/
namespace Go.Proofs.Ytfpboambhgdeoaa

structure Sm where
  sts : List (Nat × Nat)
  tn : Nat
  c : Nat
  done : Nat

def simAt (s : Sm) (j : Nat) : Sm :=
  if (s.sts.getD j (0, 0)).1 = 2 then ⟨s.sts.set j (3, (s.sts.getD j (0, 0)).2), s.tn + 1, s.c + 1, s.done + 1⟩
  else if (s.sts.getD j (0, 0)).1 = 1 then
    (if s.tn = (s.sts.getD j (0, 0)).2 then ⟨s.sts.set j (2, (s.sts.getD j (0, 0)).2), s.tn, s.c + 1, s.done⟩ else ⟨s.sts, s.tn, s.c + 1, s.done⟩)
  else s
def simUpto : Nat → Sm → Sm
  | 0, s => s
  | j + 1, s => simAt (simUpto j s) j
def simStart (k : Nat) : Sm := ⟨(List.range k).map fun j => (1, j), 0, k, 0⟩
def simRun (k : Nat) : Nat → Sm
  | 0 => simStart k
  | r + 1 => simUpto k (simRun k r)

theorem simAt_len (s : Sm) (j : Nat) : (simAt s j).sts.length = s.sts.length := by
  unfold simAt
  split
  · simp
  · split
    · split <;> simp
    · rfl
theorem simUpto_len (j : Nat) (s : Sm) : (simUpto j s).sts.length = s.sts.length := by
  induction j with
  | zero => rfl
  | succ j ih => rw [simUpto, simAt_len, ih]
theorem simRun_len (k r : Nat) : (simRun k r).sts.length = k := by
  induction r with
  | zero => simp [simRun, simStart]
  | succ r ih => rw [simRun, simUpto_len, ih]
/-- the counts stay small, and the turn is no more than the accesses -/
theorem simAt_c (s : Sm) (j : Nat) : (simAt s j).c ≤ s.c + 1 ∧ (s.tn ≤ s.c → (simAt s j).tn ≤ (simAt s j).c) ∧ (s.done ≤ s.c → (simAt s j).done ≤ (simAt s j).c) := by
  unfold simAt
  split
  · dsimp only; omega
  · split
    · split <;> (dsimp only; omega)
    · omega
theorem simUpto_c (j : Nat) (s : Sm) (h : s.tn ≤ s.c) (hd : s.done ≤ s.c) : (simUpto j s).c ≤ s.c + j ∧ (simUpto j s).tn ≤ (simUpto j s).c ∧ (simUpto j s).done ≤ (simUpto j s).c := by
  induction j with
  | zero => exact ⟨Nat.le_refl _, h, hd⟩
  | succ j ih =>
    have := simAt_c (simUpto j s) j
    simp only [simUpto]
    exact ⟨by omega, this.2.1 ih.2.1, this.2.2 ih.2.2⟩
theorem simRun_c (k r : Nat) : (simRun k r).c ≤ k + r * k ∧ (simRun k r).tn ≤ (simRun k r).c ∧ (simRun k r).done ≤ (simRun k r).c := by
  induction r with
  | zero => simp [simRun, simStart]
  | succ r ih =>
    have := simUpto_c k (simRun k r) ih.2.1 ih.2.2
    rw [simRun]
    refine ⟨?_, this.2⟩
    rw [Nat.add_mul]
    omega
/-- behind twice as many rounds as there are tries, and one more, each has held and left -/
theorem sim_ends (k : Nat) (h1 : 1 ≤ k) (h8 : k ≤ 8) : (simRun k (2 * k + 1)).done = k := by
  have h : k = 1 ∨ k = 2 ∨ k = 3 ∨ k = 4 ∨ k = 5 ∨ k = 6 ∨ k = 7 ∨ k = 8 := by omega
  rcases h with rfl | rfl | rfl | rfl | rfl | rfl | rfl | rfl <;> decide +kernel
end Go.Proofs.Ytfpboambhgdeoaa
