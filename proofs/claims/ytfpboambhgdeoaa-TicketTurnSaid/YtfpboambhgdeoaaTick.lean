/- Contracts of halt, word and ticket: what each call answers and which blocks it writes. -/
import Derived.Test.YtfpboambhgdeoaaRows
import Derived.Test.YtfpboambhgdeoaaBase
namespace Go.Proofs.Ytfpboambhgdeoaa
open Go.RowKit

theorem must_ok (why at_ : Int) (w : World) :
    Calls Try.prog 41 #[.bool true, .int .i64 why, .int .i64 at_] w fun e w' => e = .returned (.tuple #[]) ∧ w = w' := by
  go_enter Try.func41, Try.ntmps41
  go_wp2
  go_end0
  exact ⟨rfl, rfl⟩
/-- the panic of a stop -/
abbrev stopped (why at_ : Int) : Ending := .panicked [{ v := .iface 39 (.agg #[.int .i64 why, .int .i64 at_]), recovered := false }]
theorem stop_any (why at_ : Int) (w : World) :
    Calls Try.prog 43 #[.int .i64 why, .int .i64 at_] w fun e w' => e = stopped why at_ ∧ w = w' := by
  go_enter Try.func43, Try.ntmps43
  go_wp2
  exact ⟨rfl, rfl, rfl⟩
theorem must_no (why at_ : Int) (w : World) :
    Calls Try.prog 41 #[.bool false, .int .i64 why, .int .i64 at_] w fun e w' => e = stopped why at_ ∧ w = w' := by
  go_enter Try.func41, Try.ntmps41
  go_wp2_with (go_at_call 43; refine (stop_any _ _ _).mono ?_; rintro e w' ⟨rfl, rfl⟩)
  exact ⟨rfl, rfl, rfl⟩

/-- cells of words -/
def wds (xs : List Int) : Array Value := (xs.map (Value.int .i64)).toArray
theorem wds_get (xs : List Int) (i : Nat) (h : i < xs.length) : (wds xs)[i]? = some (.int .i64 (xs.getD i 0)) := by
  simp [wds, List.getElem?_eq_getElem h]
theorem wds_set (xs : List Int) (i : Nat) (v : Int) : (wds xs).setIfInBounds i (.int .i64 v) = wds (xs.set i v) := by
  simp [wds, List.map_set]
/-- a memory of words: its head in block m, its words in block l, c accesses -/
structure MemB (w : World) (m l : Nat) (xs : List Int) (c : Int) : Prop where
  head : Blk w m #[.slice (some ⟨l, 0, none⟩) xs.length xs.length, .int .i64 c] 70
  body : Blk w l (wds xs) 3
  ne : m ≠ l
theorem MemB.chg {w w' : World} {m l : Nat} {xs : List Int} {c : Int} {S : List Nat} (h : MemB w m l xs c) (k : Chg S w w') (h1 : m ∉ S) (h2 : l ∉ S) : MemB w' m l xs c :=
  ⟨k.blk h.head h1, k.blk h.body h2, h.ne⟩

theorem at_ok (m l : Nat) (xs : List Int) (c i : Int) (w : World) (h : MemB w m l xs c) (h0 : 0 ≤ i) (h1 : i < xs.length) (hx : xs.length ≤ 4096) (c0 : 0 ≤ c) (c1 : c ≤ 100000) :
    Calls Try.prog 45 #[.pointer (some ⟨m, 0, none⟩), .int .i64 i] w fun e w' => e = .returned (.pointer (some ⟨l, i.toNat, none⟩)) ∧ MemB w' m l xs (c + 1) ∧ Chg [m] w w' := by
  have hl : w.cell? ⟨m, 0, none⟩ = some (.slice (some ⟨l, 0, none⟩) xs.length xs.length) := h.head.cell 0
  have hc : w.cell? ⟨m, 1, none⟩ = some (.int .i64 c) := h.head.cell 1
  have hf : w.frozen? ⟨m, 1, none⟩ = false := h.head.frz 1
  go_enter Try.func45, Try.ntmps45
  go_wp2_with (go_at_call 41; refine (must_ok _ _ _).mono ?_; rintro e w' ⟨rfl, rfl⟩)
  go_ret
  refine ⟨by simp, ⟨?_, h.body.other h.ne.symm _ _, h.ne⟩, (Chg.refl _ _).set (by simp) _ _⟩
  simpa using h.head.set 1 (.int .i64 (c + 1))

theorem load_ok (m l : Nat) (xs : List Int) (c i : Int) (w : World) (h : MemB w m l xs c) (h0 : 0 ≤ i) (h1 : i < xs.length) (hx : xs.length ≤ 4096) (c0 : 0 ≤ c) (c1 : c ≤ 100000) :
    Calls Try.prog 18 #[.pointer (some ⟨m, 0, none⟩), .int .i64 i] w fun e w' => e = .returned (.int .i64 (xs.getD i.toNat 0)) ∧ MemB w' m l xs (c + 1) ∧ Chg [m] w w' := by
  have hg := wds_get xs i.toNat (by omega)
  obtain ⟨x, hx'⟩ : ∃ x, x = xs.getD i.toNat 0 := ⟨_, rfl⟩
  rw [← hx'] at hg ⊢
  have HX := hid hx'
  clear hx'
  go_enter Try.func18, Try.ntmps18
  go_wp2_with (go_at_call 45; refine (at_ok m l xs c i w h h0 h1 hx c0 c1).mono ?_; rintro e w' ⟨rfl, hm, hk⟩; have hl : w'.cell? ⟨l, i.toNat, none⟩ = some (.int .i64 x) := (hm.body.cell _).trans hg)
  go_ret
  exact ⟨rfl, hm, hk⟩

theorem add_ok (m l : Nat) (xs : List Int) (c i v : Int) (w : World) (h : MemB w m l xs c) (h0 : 0 ≤ i) (h1 : i < xs.length) (hx : xs.length ≤ 4096) (c0 : 0 ≤ c) (c1 : c ≤ 100000)
    (b0 : 0 ≤ xs.getD i.toNat 0) (b1 : xs.getD i.toNat 0 ≤ 100000) (v0 : 0 ≤ v) (v1 : v ≤ 100000) :
    Calls Try.prog 42 #[.pointer (some ⟨m, 0, none⟩), .int .i64 i, .int .i64 v] w fun e w' => e = .returned (.int .i64 (xs.getD i.toNat 0)) ∧ MemB w' m l (xs.set i.toNat (xs.getD i.toNat 0 + v)) (c + 1) ∧ Chg [m, l] w w' := by
  have hg := wds_get xs i.toNat (by omega)
  obtain ⟨x, hx'⟩ : ∃ x, x = xs.getD i.toNat 0 := ⟨_, rfl⟩
  rw [← hx'] at hg b0 b1 ⊢
  have HX := hid hx'
  clear hx'
  go_enter Try.func42, Try.ntmps42
  go_wp2_with (go_at_call 45; refine (at_ok m l xs c i w h h0 h1 hx c0 c1).mono ?_; rintro e w' ⟨rfl, hm, hk⟩; have hl : w'.cell? ⟨l, i.toNat, none⟩ = some (.int .i64 x) := (hm.body.cell _).trans hg; have hf : w'.frozen? ⟨l, i.toNat, none⟩ = false := hm.body.frz _)
  go_ret
  have hb := hm.body.set i.toNat (.int .i64 (x + v))
  rw [wds_set] at hb
  refine ⟨rfl, ⟨?_, hb, hm.ne⟩, (hk.mono (by simp)).set (by simp) _ _⟩
  simpa using hm.head.other hm.ne i.toNat (.int .i64 (x + v))
end Go.Proofs.Ytfpboambhgdeoaa
