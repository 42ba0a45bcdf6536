/- TicketTurn: the walk. -/
import Derived.Test.YtfpboambhgdeoaaRuns5
import Derived.Test.YtfpboambhgdeoaaSim5
namespace Go.Proofs.Ytfpboambhgdeoaa
open Go.RowKit

abbrev ptr (t : Nat) : Value := .pointer (some ⟨t, 0, none⟩)
/-- The slice that an empty composite makes. -/
theorem own_empty {w : World} {b B : Nat} (hB : B ≤ b) (h : Blk w b #[] 3) : w.ownsRow B 3 1 (.slice (some ⟨b, 0, none⟩) 0 0) 0 [] :=
  ⟨by simp, .inr ⟨b, 0, #[], rfl, hB, h, Nat.le_refl _, by decide, by simp, by simp⟩⟩
structure L1 (W : World) (m l i : Nat) (tbs perm : List Nat) (tv pv : Value) (w : World) : Prop where
  len : tbs.length = i
  mem : MemB w m l [0, 0] 0
  trs : ∀ (j t : Nat), tbs[j]? = some t → TryB w t 0 0 (-1)
  nd : tbs.Nodup
  tro : w.ownsRow W.heap.size 27 1 tv i (tbs.map ptr)
  pro : w.ownsRow W.heap.size 3 1 pv i (perm.map fun (x : Nat) => Value.int .i64 x)
  pne : pv.ownBlock ≠ some l
  pm : perm.Perm (List.range i)
  tnew : ∀ t ∈ tbs, W.heap.size ≤ t
  chg : Chg [] W w

theorem L1.step {W w3 w6 : World} {m l q a t : Nat} {tbs perm : List Nat} {tv pv : Value} {pc : List Value}
    (hl : tbs.length = q) (hm : MemB w3 m l [0, 0] 0) (ht : TryB w3 t 0 0 (-1)) (hT : ∀ (j t : Nat), tbs[j]? = some t → TryB w3 t 0 0 (-1)) (hnd : (tbs ++ [t]).Nodup)
    (hown : w3.ownsRow W.heap.size 27 1 tv (q + 1) (tbs.map ptr ++ [ptr t])) (hC : Chg [] W w3) (hnew : ∀ t ∈ tbs, W.heap.size ≤ t) (htW : W.heap.size ≤ t) (hpm : perm.Perm (List.range q)) (hpc : pc = perm.map fun (x : Nat) => Value.int .i64 x) (haq : a ≤ q)
    (ho : w6.ownsRow w3.heap.size 3 1 pv (a + 1 + (q - a)) (pc.take a ++ [.int .i64 q] ++ pc.drop (a * 1))) (hC6 : Chg [] w3 w6) :
    L1 W m l (q + 1) (tbs ++ [t]) (perm.take a ++ [q] ++ perm.drop a) tv pv w6 := by
  subst hpc
  refine ⟨by simp [hl], hm.chg hC6 (by simp) (by simp), fun j t' hj => ?_, hnd, ?_, ?_, ?_, ?_, fun x hx => by (rcases List.mem_append.1 hx with h | h; exact hnew x h; simp at h; omega), hC.trans hC6⟩
  · rcases List.mem_append.1 (List.mem_of_getElem? hj) with h | h
    · obtain ⟨j', hj'⟩ := List.getElem?_of_mem h
      exact (hT j' t' hj').chg hC6 (by simp)
    · have : t' = t := by simpa using h
      subst this
      exact ht.chg hC6 (by simp)
  · have := own_chg hown hC6 (by simp)
    simpa using this
  · have h2 : w6.ownsRow w3.heap.size 3 1 pv (q + 1) ((perm.take a ++ [q] ++ perm.drop a).map fun (x : Nat) => Value.int .i64 x) := by
      rw [show a + 1 + (q - a) = q + 1 from by omega] at ho
      simpa using ho
    refine ⟨h2.1, ?_⟩
    rcases h2.2 with hv | ⟨g, cap, cur, e1, e2, rest⟩
    · exact .inl hv
    · exact .inr ⟨g, cap, cur, e1, Nat.le_trans hC.size e2, rest⟩
  · intro e
    have h1 := (ho.lt l e).1
    have h2 := hm.lt.2
    omega
  · rw [List.range_succ]
    have h1 : (perm.take a ++ [q] ++ perm.drop a).Perm ((perm.take a ++ perm.drop a) ++ [q]) := by
      rw [List.append_assoc, List.append_assoc]
      exact List.Perm.append_left _ (List.perm_append_comm)
    rw [List.take_append_drop] at h1
    exact h1.trans (List.Perm.append_right _ hpm)

/-- the tries in the order in which they were picked: blocks ob, by perm and the list of tries -/
structure L2 (W : World) (m l k gT gP : Nat) (perm ob : List Nat) (sts : List (Nat × Nat)) (nx tn c : Nat) (w : World) : Prop where
  plen : perm.length = k
  olen : ob.length = k
  mem : MemB w m l [(nx : Int), (tn : Int)] c
  nd : ob.Nodup
  trs : ∀ j, j < k → TryB w (ob.getD j 0) 0 (sts.getD j (0, 0)).1 (if (sts.getD j (0, 0)).1 = 0 then -1 else (sts.getD j (0, 0)).2)
  pc : ∀ j, j < k → w.cell? ⟨gP, j, none⟩ = some (.int .i64 (perm.getD j 0)) ∧ perm.getD j 0 < k
  tc : ∀ j, j < k → w.cell? ⟨gT, perm.getD j 0, none⟩ = some (ptr (ob.getD j 0))
  gm : gP ≠ m ∧ gP ≠ l ∧ gT ≠ m ∧ gT ≠ l
  go : gP ∉ ob ∧ gT ∉ ob
  ml : m ∉ ob ∧ l ∉ ob
  new : W.heap.size ≤ m ∧ W.heap.size ≤ l ∧ ∀ t ∈ ob, W.heap.size ≤ t
  chg : Chg [] W w

theorem getD_mem (l : List Nat) (j : Nat) (h : j < l.length) : l.getD j 0 ∈ l := by simp [List.getElem?_eq_getElem h]

/-- one pick: only the try that is picked, and the lock's words, are written -/
theorem L2.step {W w w' : World} {m l k gT gP j : Nat} {perm ob : List Nat} {sts : List (Nat × Nat)} {nx tn c : Nat} {s' t' nx' tn' c' : Nat}
    (h : L2 W m l k gT gP perm ob sts nx tn c w) (hl : sts.length = k) (hj : j < k) (hs : s' ≠ 0) (ht : TryB w' (ob.getD j 0) 0 s' t') (hm : MemB w' m l [(nx' : Int), (tn' : Int)] c') (hc : Chg [ob.getD j 0, m, l] w w') :
    L2 W m l k gT gP perm ob (sts.set j (s', t')) nx' tn' c' w' := by
  have hmem : ob.getD j 0 ∈ ob := getD_mem ob j (by rw [h.olen]; exact hj)
  have hP : gP ∉ [ob.getD j 0, m, l] := by
    have := h.gm
    simp only [List.mem_cons, List.not_mem_nil, or_false, not_or]
    exact ⟨fun e => h.go.1 (by rw [e]; exact hmem), this.1, this.2.1⟩
  have hT : gT ∉ [ob.getD j 0, m, l] := by
    have := h.gm
    simp only [List.mem_cons, List.not_mem_nil, or_false, not_or]
    exact ⟨fun e => h.go.2 (by rw [e]; exact hmem), this.2.2.1, this.2.2.2⟩
  refine ⟨h.plen, h.olen, hm, h.nd, fun i hi => ?_, fun i hi => ⟨hc.cell (h.pc i hi).1 hP, (h.pc i hi).2⟩, fun i hi => hc.cell (h.tc i hi) hT, h.gm, h.go, h.ml, h.new, ?_⟩
  · by_cases e : i = j
    · subst e
      have : (sts.set i (s', t')).getD i (0, 0) = (s', t') := by simp [hl, hi]
      rw [this]
      simpa [hs] using ht
    · have : (sts.set j (s', t')).getD i (0, 0) = sts.getD i (0, 0) := by simp [List.getElem?_set_ne (Ne.symm e)]
      rw [this]
      have hne : ob.getD i 0 ≠ ob.getD j 0 := by
        intro e2
        have hi' : i < ob.length := by rw [h.olen]; exact hi
        have hj' : j < ob.length := by rw [h.olen]; exact hj
        simp only [List.getD_eq_getElem?_getD, List.getElem?_eq_getElem hi', List.getElem?_eq_getElem hj', Option.getD_some] at e2
        exact e ((List.getElem_inj h.nd).1 e2)
      have hmem' : ob.getD i 0 ∈ ob := getD_mem ob i (by rw [h.olen]; exact hi)
      exact (h.trs i hi).chg hc (by
        simp only [List.mem_cons, List.not_mem_nil, or_false, not_or]
        exact ⟨hne, fun e => h.ml.1 (by rw [← e]; exact hmem'), fun e => h.ml.2 (by rw [← e]; exact hmem')⟩)
  · refine h.chg.after hc ?_
    have := h.new
    intro x hx
    simp only [List.mem_cons, List.not_mem_nil, or_false] at hx
    rcases hx with rfl | rfl | rfl
    · exact .inr (this.2.2 _ hmem)
    · exact .inr this.1
    · exact .inr this.2.1

theorem own_cells {w : World} {B : Nat} {e : TypeId} {v : Value} {n : Nat} {xs : List Value} (h : w.ownsRow B e 1 v n xs) (hn : 1 ≤ n) :
    ∃ g cap cur, v = .slice (some ⟨g, 0, none⟩) n cap ∧ B ≤ g ∧ Blk w g cur e ∧ n ≤ cap ∧ ∀ j u, xs[j]? = some u → w.cell? ⟨g, j, none⟩ = some u := by
  rcases h.2 with ⟨_, h0⟩ | ⟨g, cap, cur, rfl, hb, hg, hc, _⟩
  · omega
  · refine ⟨g, cap, cur, rfl, hb, hg, hc, fun j u hu => ?_⟩
    have := h.cells (g := g) rfl j u hu
    rwa [show (⟨g, 0, none⟩ : Addr).add j = ⟨g, j, none⟩ from by unfold Addr.add; split <;> simp_all] at this

theorem L1.start {W w : World} {m l k : Nat} {tbs perm : List Nat} {tv pv : Value} (h : L1 W m l k tbs perm tv pv w) (hk : 1 ≤ k) (hml : W.heap.size ≤ m ∧ W.heap.size ≤ l) :
    ∃ gT gP cT cP, tv = .slice (some ⟨gT, 0, none⟩) k cT ∧ pv = .slice (some ⟨gP, 0, none⟩) k cP ∧ k ≤ cT ∧ k ≤ cP ∧ L2 W m l k gT gP perm (perm.map fun i => tbs.getD i 0) (List.replicate k (0, 0)) 0 0 0 w := by
  obtain ⟨gT, cT, curT, rfl, hTb, hTB, hTc, hTcell⟩ := own_cells h.tro hk
  obtain ⟨gP, cP, curP, rfl, hPb, hPB, hPc, hPcell⟩ := own_cells h.pro hk
  have plen : perm.length = k := by simpa using h.pm.length_eq
  have pmem : ∀ x ∈ perm, x < k := fun x hx => by simpa using h.pm.mem_iff.1 hx
  have pnd : perm.Nodup := h.pm.nodup_iff.2 List.nodup_range
  have hget : ∀ j, j < k → perm[j]? = some (perm.getD j 0) := fun j hj => by simp [List.getElem?_eq_getElem (show j < perm.length by omega)]
  have hlt : ∀ j, j < k → perm.getD j 0 < k := fun j hj => pmem _ (List.mem_of_getElem? (hget j hj))
  have htb : ∀ i, i < k → tbs[i]? = some (tbs.getD i 0) := fun i hi => by simp [List.getElem?_eq_getElem (show i < tbs.length by rw [h.len]; exact hi)]
  have hob : ∀ j, j < k → (perm.map fun i => tbs.getD i 0).getD j 0 = tbs.getD (perm.getD j 0) 0 := fun j hj => by
    rw [List.getD_eq_getElem?_getD, List.getElem?_map, hget j hj]; rfl
  have hTry : ∀ i, i < k → TryB w (tbs.getD i 0) 0 0 (-1) := fun i hi => h.trs i _ (htb i hi)
  have hmemob : ∀ t ∈ (perm.map fun i => tbs.getD i 0), ∃ i, i < k ∧ t = tbs.getD i 0 := fun t ht => by
    obtain ⟨i, hi, rfl⟩ := List.mem_map.1 ht
    exact ⟨i, pmem i hi, rfl⟩
  refine ⟨gT, gP, cT, cP, rfl, rfl, hTc, hPc, ⟨plen, by simp [plen], h.mem, ?_, ?_, fun j hj => ⟨?_, hlt j hj⟩, ?_, ⟨?_, ?_, ?_, ?_⟩, ⟨?_, ?_⟩, ⟨?_, ?_⟩, ⟨hml.1, hml.2, ?_⟩, h.chg⟩⟩
  · unfold List.Nodup
    rw [List.pairwise_map]
    refine List.Pairwise.imp_of_mem (fun {a b} ha hb hne e => hne ?_) pnd
    have ha' : a < tbs.length := by rw [h.len]; exact pmem a ha
    have hb' : b < tbs.length := by rw [h.len]; exact pmem b hb
    simp only [List.getD_eq_getElem?_getD, List.getElem?_eq_getElem ha', List.getElem?_eq_getElem hb', Option.getD_some] at e
    exact (List.getElem_inj h.nd).1 e
  · intro j hj
    rw [hob j hj]
    have : (List.replicate k (0, 0)).getD j (0, 0) = ((0, 0) : Nat × Nat) := by simp [hj]
    rw [this]
    simpa using hTry _ (hlt j hj)
  · exact hPcell j _ (by rw [List.getElem?_map, hget j hj]; rfl)
  · intro j hj
    rw [hob j hj]
    exact hTcell _ _ (by rw [List.getElem?_map, htb _ (hlt j hj)]; rfl)
  · exact Blk.ne_ hPB h.mem.head (by decide)
  · intro e; exact h.pne (by simp [Value.ownBlock, e])
  · exact Blk.ne_ hTB h.mem.head (by decide)
  · exact Blk.ne_ hTB h.mem.body (by decide)
  · intro hm
    obtain ⟨i, hi, e⟩ := hmemob _ hm
    exact Blk.ne_ hPB (hTry i hi) (by decide) e
  · intro hm
    obtain ⟨i, hi, e⟩ := hmemob _ hm
    exact Blk.ne_ hTB (hTry i hi) (by decide) e
  · intro hm
    obtain ⟨i, hi, e⟩ := hmemob _ hm
    exact (h.mem.blkne (hTry i hi)).1 e.symm
  · intro hm
    obtain ⟨i, hi, e⟩ := hmemob _ hm
    exact (h.mem.blkne (hTry i hi)).2 e.symm
  · intro t ht
    obtain ⟨i, hi, e⟩ := hmemob _ ht
    rw [e]
    exact h.tnew _ (List.mem_of_getElem? (htb i hi))

def freshSts (q p : Nat) : List (Nat × Nat) := (List.range p).map (fun i => (1, i)) ++ List.replicate (q - p) (0, 0)
theorem freshSts_len {q p : Nat} (h : p ≤ q) : (freshSts q p).length = q := by simp [freshSts]; omega
theorem freshSts_get {q p : Nat} (h : p < q) : (freshSts q p).getD p (0, 0) = (0, 0) := by
  have : 0 < q - p := by omega
  simp [freshSts, List.getElem?_append, List.getElem?_replicate, this]
theorem freshSts_set {q p : Nat} (h : p < q) : (freshSts q p).set p (1, p) = freshSts q (p + 1) := by
  unfold freshSts
  rw [List.set_append_right _ _ (by simp), show q - p = (q - (p + 1)) + 1 from by omega, List.replicate_succ, List.range_succ]
  simp
theorem freshSts_zero (q : Nat) : freshSts q 0 = List.replicate q (0, 0) := by simp [freshSts]
theorem freshSts_end (q : Nat) : freshSts q q = (simStart q).sts := by simp [freshSts, simStart]

theorem ptr_info : (Try.prog.info? 27).map (fun i => (i.zero, i.size, i.bytes)) = some (some (.pointer none), 1, 8) := by kernel_rfl

set_option maxRecDepth 100000 in
set_option maxHeartbeats 400000 in
theorem turn_walk (n : Int) (A : Option Addr) (len cap : Nat) (ord : Nat → Int) (W : World) (hn : -9223372036854775808 ≤ n ∧ n ≤ 9223372036854775807)
    (hlen : len ≤ 9223372036854775807) (hr : len = 0 ∨ ∃ b off, A = some ⟨b, off, none⟩ ∧ ∀ j, j < len → W.cell? ⟨b, off + j, none⟩ = some (.int .i64 (ord j))) (ho : ∀ j, -9223372036854775808 ≤ ord j ∧ ord j ≤ 9223372036854775807) :
    Calls Try.prog 3 #[.int .i64 n, .slice A len cap] W fun e w' => e = .returned (.bool true) ∧ Chg [] W w' := by
  obtain ⟨i0, hi, hz0, hz1, hz2⟩ := info_parts int_info
  obtain ⟨i1, hj, hy0, hy1, hy2⟩ := info_parts ptr_info
  go_enter Try.func3, Try.ntmps3
  go_wp2_with fail
  refine (within_any _ _ _ _ hn (by omega) (by omega) (by omega)).mono ?_
  rintro e w1 ⟨k, hk1, hk8, rfl, rfl⟩
  go_wp2_with fail
  refine (word_some2 _).mono ?_
  rintro e w1 ⟨m, l, rfl, hm1, gm, gl, hC1⟩
  obtain ⟨k, rfl⟩ : ∃ q : Nat, k = q := ⟨k.toNat, by omega⟩
  go_wp2_with fail
  go_loopw [7, 8, 9] (fun tv pv i wr => ∃ (q : Nat) (tbs perm : List Nat), i = .int .i64 q ∧ q ≤ k ∧ L1 W m l q tbs perm tv pv wr) (fun _ _ i _ => k - (intOf i).toNat)
  case atStart => exact ⟨0, [], [], rfl, by omega, ⟨rfl, hm1, by simp, by simp, World.ownsRow_nil _ _ _ _, World.ownsRow_nil _ _ _ _, by simp [Value.ownBlock], by simp, by simp, hC1⟩⟩
  case round =>
    obtain ⟨q, tbs, perm, rfl, hq, h1⟩ := hrel
    have hm := h1.mem
    by_cases hlt : q < k
    · go_wp2_with fail
      refine (new_some _ _).mono ?_
      rintro e w2 ⟨t, rfl, ht, gt, hC2⟩
      have zt := Blk.lt ht
      go_wp2_with (at_builtin; go_must (refine wpList_append_own _ rfl (.tmp 31) (.tmp 33) 26 rfl W.heap.size 27 i1 (.pointer none) 1 8 Try.underlying26 hj hy0 hy1 hy2 rfl (by decide) u7 q (tbs.map ptr) rfl ((own_chg h1.tro hC2 (by simp)).alloc _) ⟨w2.heap.size, 0, none⟩ 1 1 [ptr t] rfl rfl ?c1 ?c2 ?c3 ?c4 ?c5 ?_))
      case c1 => exact cell_one_new _ _ _
      case c2 => simp [Value.oneCell']
      case c3 => simp only [maxLen]; omega
      case c4 => omega
      case c5 => have := h1.chg.size; simp; omega
      intro tv1 w3 hown3 hg3 _
      have hown2 := (own_chg h1.tro hC2 (by simp)).alloc (.cells #[ptr t] 27)
      have hC3 : Chg [] W w3 := grown_chg ((h1.chg.trans hC2).alloc _) hg3 hown2 (Nat.le_refl _)
      have hw3 : wr.heap.size ≤ w3.heap.size := Nat.le_trans hC2.size (Nat.le_trans (by simp) hg3.size)
      have hm3 : MemB w3 m l [0, 0] 0 := by
        have := (hm.chg hC2 (by simp) (by simp)).chg ((Chg.refl [] _).alloc (.cells #[ptr t] 27)) (by simp) (by simp)
        exact ⟨this.head.own hg3 hown2 (by decide), this.body.own hg3 hown2 (by decide), this.ne⟩
      have ht3 : TryB w3 t 0 0 (-1) := Blk.own (Blk.alloc ht _) hg3 hown2 (by decide)
      have hT3 : ∀ (j t : Nat), tbs[j]? = some t → TryB w3 t 0 0 (-1) := fun j t hj => Blk.own (Blk.alloc (TryB.chg (h1.trs j t hj) hC2 (by simp)) _) hg3 hown2 (by decide)
      have hp3 : w3.ownsRow W.heap.size 3 1 u8 q (perm.map fun (x : Nat) => Value.int .i64 x) := ((own_chg h1.pro hC2 (by simp)).alloc _).kept hg3 (own_own_ne ((own_chg h1.pro hC2 (by simp)).alloc _) hown2 (by decide))
      have hnd : (tbs ++ [t]).Nodup := by
        rw [List.nodup_append]
        refine ⟨h1.nd, by simp, fun a ha b hb hab => ?_⟩
        obtain ⟨j, hj⟩ := List.getElem?_of_mem ha
        have h5 : a < wr.heap.size := Blk.lt (h1.trs j a hj)
        have h6 : b = t := by simpa using hb
        omega
      clear hown2 hg3 hC2 ht
      obtain ⟨A8, c8, rfl, hqc⟩ : ∃ A8 c8, u8 = .slice A8 q c8 ∧ q ≤ c8 := by
        rcases h1.pro.2 with ⟨e1, e2⟩ | ⟨g, cap, cur, e1, _, _, e2, _⟩
        · exact ⟨none, 0, by rw [e1, e2], by omega⟩
        · exact ⟨_, cap, e1, e2⟩
      have hR := Reads.of_own hp3
      have hlen3 : (perm.map fun (x : Nat) => Value.int .i64 x).length = q := by simpa using h1.pro.1
      have hone : ∀ u ∈ (perm.map fun (x : Nat) => Value.int .i64 x), u.oneCell' = true := by simp [Value.oneCell']
      obtain ⟨pc, hpc⟩ : ∃ pc, pc = perm.map fun (x : Nat) => Value.int .i64 x := ⟨_, rfl⟩
      rw [← hpc] at hR hone hlen3
      have HP := hid hpc
      clear hpc
      by_cases hql : q < len
      · obtain ⟨b, off, rfl, hcl⟩ := hr.resolve_left (by omega)
        have hcq : w3.cell? ⟨b, off + q, none⟩ = some (.int .i64 (ord q)) := hC3.cell (hcl q hql) (by simp)
        have hoq := ho q
        go_wp2_with fail
        refine (within_any _ _ _ _ hoq (by omega) (by omega) (by omega)).mono ?_
        rintro e w' ⟨a, ha0, haq, rfl, rfl⟩
        obtain ⟨a, rfl⟩ : ∃ z : Nat, a = z := ⟨a.toNat, by omega⟩
        have haq : a ≤ q := by omega
        go_wp2_with fail
        have hcut : Reads w3 w3.heap.size 1 (if c8 = a then A8 else Option.map (fun x => x.add a) A8) (q - a) (pc.drop (a * 1)) := by simpa using hR.cut haq hqc
        have hac : a ≤ c8 := by omega
        go_region_law (first | (refine step_append_any _ rfl (.tmp 46) (.tmp 49) 22 rfl w3.heap.size 3 i0 (.int .i64 0) 1 8 Try.underlying22 hi hz0 hz1 hz2 rfl (by decide) (.slice (some ⟨_, 0, none⟩) 0 0) 0 [] rfl (own_empty (by first | (simp; done) | (simp; omega)) (by repeat (first | (with_reducible refine Blk.fresh_at ?_ <;> (simp; done)) | with_reducible refine Blk.drew ?_ | with_reducible refine Blk.alloc ?_ _ | with_reducible refine Blk.grown ?_ hg4 (by simp [Value.ownBlock])))) w3.heap.size A8 a c8 (pc.take a) rfl (Reads.chg (hR.take haq) (by with_reducible (repeat (first | exact Chg.refl _ _ | refine Chg.drew ?_ | refine Chg.alloc ?_ _))) (Nat.le_refl _)) (fun u hu => hone u (List.mem_of_mem_take hu)) (by unfold maxLen; omega) (by omega) (by first | (simp; done) | (simp; omega)) ?_; intro v1 w4 ho4 hg4 hat4; simp only [Nat.zero_add, List.nil_append] at ho4; have hC4 : Chg [] w3 w4 := Chg.after (by with_reducible (repeat (first | exact Chg.refl _ _ | refine Chg.drew ?_ | refine Chg.alloc ?_ _))) (Chg.own_grown hg4) (by first | (simp; done) | (simp; omega)); clear hat4) | (refine step_append_one rfl (.tmp 50) (.tmp 52) 22 rfl w3.heap.size 3 i0 (.int .i64 0) 8 Try.underlying22 hi hz0 hz1 hz2 rfl v1 a (pc.take a) rfl (w4.heap.size) (.int .i64 q) rfl (by simp [Value.oneCell']) (by unfold maxLen; omega) (by omega) ?_ 3 ?_ ?_ ?_; (focus (with_reducible (repeat (first | exact ho4 | refine World.ownsRow.alloc ?_ _)))); (focus (repeat (first | (with_reducible refine Blk.fresh_at ?_ <;> (simp; done)) | with_reducible refine Blk.drew ?_ | with_reducible refine Blk.alloc ?_ _ | (with_reducible refine Blk.grown ?_ hg4 ?_; rotate_left; (focus (simp [Value.ownBlock]; done)))))); (have := hC4.size; first | omega | (simp; omega)); intro v2 w5 ho5 hg5 hat5; have hC5 : Chg [] w3 w5 := grown_chg (v := v1) (base := w3.heap.size) (e := 3) (size := 1) (n := a) (xs := pc.take a) (by with_reducible (repeat (first | exact hC4 | exact Chg.refl _ _ | refine Chg.drew ?_ | refine Chg.alloc ?_ _))) hg5 (by with_reducible (repeat (first | exact ho4 | refine World.ownsRow.alloc ?_ _))) (Nat.le_refl _); clear hat5 hg5) | (refine step_append_one rfl (.tmp 50) (.tmp 52) 22 rfl w3.heap.size 3 i0 (.int .i64 0) 8 Try.underlying22 hi hz0 hz1 hz2 rfl v1 a (pc.take a) rfl (w3.heap.size) (.int .i64 q) rfl (by simp [Value.oneCell']) (by unfold maxLen; omega) (by omega) ?_ 3 ?_ ?_ ?_; (focus (with_reducible (repeat (first | exact ho4 | refine World.ownsRow.alloc ?_ _)))); (focus (repeat (first | (with_reducible refine Blk.fresh_at ?_ <;> (simp; done)) | with_reducible refine Blk.drew ?_ | with_reducible refine Blk.alloc ?_ _ | (with_reducible refine Blk.grown ?_ hg4 ?_; rotate_left; (focus (simp [Value.ownBlock]; done)))))); (have := hC4.size; first | omega | (simp; omega)); intro v2 w5 ho5 hg5 hat5; have hC5 : Chg [] w3 w5 := grown_chg (v := v1) (base := w3.heap.size) (e := 3) (size := 1) (n := a) (xs := pc.take a) (by with_reducible (repeat (first | exact hC4 | exact Chg.refl _ _ | refine Chg.drew ?_ | refine Chg.alloc ?_ _))) hg5 (by with_reducible (repeat (first | exact ho4 | refine World.ownsRow.alloc ?_ _))) (Nat.le_refl _); clear hat5 hg5) | (refine step_append_one rfl (.tmp 50) (.tmp 52) 22 rfl w3.heap.size 3 i0 (.int .i64 0) 8 Try.underlying22 hi hz0 hz1 hz2 rfl v1 a (pc.take a) rfl (w3.heap.size + 1) (.int .i64 q) rfl (by simp [Value.oneCell']) (by unfold maxLen; omega) (by omega) ?_ 3 ?_ ?_ ?_; (focus (with_reducible (repeat (first | exact ho4 | refine World.ownsRow.alloc ?_ _)))); (focus (repeat (first | (with_reducible refine Blk.fresh_at ?_ <;> (simp; done)) | with_reducible refine Blk.drew ?_ | with_reducible refine Blk.alloc ?_ _ | (with_reducible refine Blk.grown ?_ hg4 ?_; rotate_left; (focus (simp [Value.ownBlock]; done)))))); (have := hC4.size; first | omega | (simp; omega)); intro v2 w5 ho5 hg5 hat5; have hC5 : Chg [] w3 w5 := grown_chg (v := v1) (base := w3.heap.size) (e := 3) (size := 1) (n := a) (xs := pc.take a) (by with_reducible (repeat (first | exact hC4 | exact Chg.refl _ _ | refine Chg.drew ?_ | refine Chg.alloc ?_ _))) hg5 (by with_reducible (repeat (first | exact ho4 | refine World.ownsRow.alloc ?_ _))) (Nat.le_refl _); clear hat5 hg5) | (refine step_append_any _ rfl (.tmp 53) (.tmp 56) 22 rfl w3.heap.size 3 i0 (.int .i64 0) 1 8 Try.underlying22 hi hz0 hz1 hz2 rfl (by decide) v2 (a + 1) (pc.take a ++ [.int .i64 q]) rfl (by with_reducible (repeat (first | exact ho5 | refine World.ownsRow.alloc ?_ _))) w3.heap.size _ (q - a) _ (pc.drop (a * 1)) rfl (Reads.chg hcut (by with_reducible (repeat (first | exact hC5 | exact Chg.refl _ _ | refine Chg.drew ?_ | refine Chg.alloc ?_ _))) (Nat.le_refl _)) (fun u hu => hone u (List.mem_of_mem_drop hu)) (by unfold maxLen; omega) (by omega) (by have := hC5.size; first | omega | (simp; omega)) ?_; intro v3 w6 ho6 hg6 hat6; have hC6 : Chg [] w3 w6 := grown_chg (v := v2) (base := w3.heap.size) (e := 3) (size := 1) (n := a + 1) (xs := pc.take a ++ [.int .i64 q]) (by with_reducible (repeat (first | exact hC5 | exact Chg.refl _ _ | refine Chg.drew ?_ | refine Chg.alloc ?_ _))) hg6 (by with_reducible (repeat (first | exact ho5 | refine World.ownsRow.alloc ?_ _))) (Nat.le_refl _); clear hat6 hg6))
        all_goals
          go_wp2_with fail
          go_roundw
          case rel => exact ⟨q + 1, _, _, by go_num, by omega, L1.step h1.len hm3 ht3 hT3 hnd hown3 hC3 h1.tnew (Nat.le_trans h1.chg.size gt) h1.pm HP.out haq ho6 hC6⟩
          case measure => simp [intOf]; omega
      · go_wp2_with fail
        have haq : 0 ≤ q := Nat.zero_le _
        have hcut : Reads w3 w3.heap.size 1 A8 (q - 0) (pc.drop (0 * 1)) := by simpa using hR
        go_region_law (first | (refine step_append_any _ rfl (.tmp 46) (.tmp 49) 22 rfl w3.heap.size 3 i0 (.int .i64 0) 1 8 Try.underlying22 hi hz0 hz1 hz2 rfl (by decide) (.slice (some ⟨_, 0, none⟩) 0 0) 0 [] rfl (own_empty (by first | (simp; done) | (simp; omega)) (by repeat (first | (with_reducible refine Blk.fresh_at ?_ <;> (simp; done)) | with_reducible refine Blk.drew ?_ | with_reducible refine Blk.alloc ?_ _ | with_reducible refine Blk.grown ?_ hg4 (by simp [Value.ownBlock])))) w3.heap.size A8 0 c8 (pc.take 0) rfl (Reads.chg (hR.take haq) (by with_reducible (repeat (first | exact Chg.refl _ _ | refine Chg.drew ?_ | refine Chg.alloc ?_ _))) (Nat.le_refl _)) (fun u hu => hone u (List.mem_of_mem_take hu)) (by unfold maxLen; omega) (by omega) (by first | (simp; done) | (simp; omega)) ?_; intro v1 w4 ho4 hg4 hat4; simp only [Nat.zero_add, List.nil_append] at ho4; have hC4 : Chg [] w3 w4 := Chg.after (by with_reducible (repeat (first | exact Chg.refl _ _ | refine Chg.drew ?_ | refine Chg.alloc ?_ _))) (Chg.own_grown hg4) (by first | (simp; done) | (simp; omega)); clear hat4) | (refine step_append_one rfl (.tmp 50) (.tmp 52) 22 rfl w3.heap.size 3 i0 (.int .i64 0) 8 Try.underlying22 hi hz0 hz1 hz2 rfl v1 0 (pc.take 0) rfl (w4.heap.size) (.int .i64 q) rfl (by simp [Value.oneCell']) (by unfold maxLen; omega) (by omega) ?_ 3 ?_ ?_ ?_; (focus (with_reducible (repeat (first | exact ho4 | refine World.ownsRow.alloc ?_ _)))); (focus (repeat (first | (with_reducible refine Blk.fresh_at ?_ <;> (simp; done)) | with_reducible refine Blk.drew ?_ | with_reducible refine Blk.alloc ?_ _ | (with_reducible refine Blk.grown ?_ hg4 ?_; rotate_left; (focus (simp [Value.ownBlock]; done)))))); (have := hC4.size; first | omega | (simp; omega)); intro v2 w5 ho5 hg5 hat5; have hC5 : Chg [] w3 w5 := grown_chg (v := v1) (base := w3.heap.size) (e := 3) (size := 1) (n := 0) (xs := pc.take 0) (by with_reducible (repeat (first | exact hC4 | exact Chg.refl _ _ | refine Chg.drew ?_ | refine Chg.alloc ?_ _))) hg5 (by with_reducible (repeat (first | exact ho4 | refine World.ownsRow.alloc ?_ _))) (Nat.le_refl _); clear hat5 hg5) | (refine step_append_one rfl (.tmp 50) (.tmp 52) 22 rfl w3.heap.size 3 i0 (.int .i64 0) 8 Try.underlying22 hi hz0 hz1 hz2 rfl v1 0 (pc.take 0) rfl (w3.heap.size) (.int .i64 q) rfl (by simp [Value.oneCell']) (by unfold maxLen; omega) (by omega) ?_ 3 ?_ ?_ ?_; (focus (with_reducible (repeat (first | exact ho4 | refine World.ownsRow.alloc ?_ _)))); (focus (repeat (first | (with_reducible refine Blk.fresh_at ?_ <;> (simp; done)) | with_reducible refine Blk.drew ?_ | with_reducible refine Blk.alloc ?_ _ | (with_reducible refine Blk.grown ?_ hg4 ?_; rotate_left; (focus (simp [Value.ownBlock]; done)))))); (have := hC4.size; first | omega | (simp; omega)); intro v2 w5 ho5 hg5 hat5; have hC5 : Chg [] w3 w5 := grown_chg (v := v1) (base := w3.heap.size) (e := 3) (size := 1) (n := 0) (xs := pc.take 0) (by with_reducible (repeat (first | exact hC4 | exact Chg.refl _ _ | refine Chg.drew ?_ | refine Chg.alloc ?_ _))) hg5 (by with_reducible (repeat (first | exact ho4 | refine World.ownsRow.alloc ?_ _))) (Nat.le_refl _); clear hat5 hg5) | (refine step_append_one rfl (.tmp 50) (.tmp 52) 22 rfl w3.heap.size 3 i0 (.int .i64 0) 8 Try.underlying22 hi hz0 hz1 hz2 rfl v1 0 (pc.take 0) rfl (w3.heap.size + 1) (.int .i64 q) rfl (by simp [Value.oneCell']) (by unfold maxLen; omega) (by omega) ?_ 3 ?_ ?_ ?_; (focus (with_reducible (repeat (first | exact ho4 | refine World.ownsRow.alloc ?_ _)))); (focus (repeat (first | (with_reducible refine Blk.fresh_at ?_ <;> (simp; done)) | with_reducible refine Blk.drew ?_ | with_reducible refine Blk.alloc ?_ _ | (with_reducible refine Blk.grown ?_ hg4 ?_; rotate_left; (focus (simp [Value.ownBlock]; done)))))); (have := hC4.size; first | omega | (simp; omega)); intro v2 w5 ho5 hg5 hat5; have hC5 : Chg [] w3 w5 := grown_chg (v := v1) (base := w3.heap.size) (e := 3) (size := 1) (n := 0) (xs := pc.take 0) (by with_reducible (repeat (first | exact hC4 | exact Chg.refl _ _ | refine Chg.drew ?_ | refine Chg.alloc ?_ _))) hg5 (by with_reducible (repeat (first | exact ho4 | refine World.ownsRow.alloc ?_ _))) (Nat.le_refl _); clear hat5 hg5) | (refine step_append_any _ rfl (.tmp 53) (.tmp 56) 22 rfl w3.heap.size 3 i0 (.int .i64 0) 1 8 Try.underlying22 hi hz0 hz1 hz2 rfl (by decide) v2 (0 + 1) (pc.take 0 ++ [.int .i64 q]) rfl (by with_reducible (repeat (first | exact ho5 | refine World.ownsRow.alloc ?_ _))) w3.heap.size _ (q - 0) _ (pc.drop (0 * 1)) rfl (Reads.chg hcut (by with_reducible (repeat (first | exact hC5 | exact Chg.refl _ _ | refine Chg.drew ?_ | refine Chg.alloc ?_ _))) (Nat.le_refl _)) (fun u hu => hone u (List.mem_of_mem_drop hu)) (by unfold maxLen; omega) (by omega) (by have := hC5.size; first | omega | (simp; omega)) ?_; intro v3 w6 ho6 hg6 hat6; have hC6 : Chg [] w3 w6 := grown_chg (v := v2) (base := w3.heap.size) (e := 3) (size := 1) (n := 0 + 1) (xs := pc.take 0 ++ [.int .i64 q]) (by with_reducible (repeat (first | exact hC5 | exact Chg.refl _ _ | refine Chg.drew ?_ | refine Chg.alloc ?_ _))) hg6 (by with_reducible (repeat (first | exact ho5 | refine World.ownsRow.alloc ?_ _))) (Nat.le_refl _); clear hat6 hg6))
        all_goals
          go_wp2_with fail
          go_roundw
          case rel => exact ⟨q + 1, _, _, by go_num, by omega, L1.step h1.len hm3 ht3 hT3 hnd hown3 hC3 h1.tnew (Nat.le_trans h1.chg.size gt) h1.pm HP.out haq (by simpa using ho6) hC6⟩
          case measure => simp [intOf]; omega
    · have hqk : q = k := by omega
      subst hqk
      obtain ⟨gT, gP, cT, cP, rfl, rfl, hcT, hcP, h2⟩ := h1.start (by omega) ⟨gm, gl⟩
      generalize (perm.map fun i => tbs.getD i 0) = ob at h2
      clear h1 hm
      go_wp2_with fail
      go_loopw [60, 13] (fun j _ wr2 => ∃ p : Nat, j = .int .i64 p ∧ p ≤ q ∧ L2 W m l q gT gP perm ob (freshSts q p) p 0 p wr2) (fun j _ _ => q - (intOf j).toNat)
      case atStart => exact ⟨0, rfl, by omega, by rw [freshSts_zero]; exact h2⟩
      case round =>
        obtain ⟨p, rfl, hp, h3⟩ := hrel
        by_cases hpq : p < q
        · have hpc := (h3.pc p hpq).1
          have hpk := (h3.pc p hpq).2
          have htc := h3.tc p hpq
          have hmm := h3.mem
          have htr := h3.trs p hpq
          rw [freshSts_get hpq] at htr
          have hmemt := getD_mem ob p (by rw [h3.olen]; exact hpq)
          have hstep := step_fresh (ob.getD p 0) m l [(p : Int), ((0 : Nat) : Int)] 0 p (-1) wr htr hmm (fun e => h3.ml.1 (by rw [← e]; exact hmemt)) (fun e => h3.ml.2 (by rw [← e]; exact hmemt)) (by omega) (by simp) (by simp) (by omega) (by omega) (by simp) (by simp; omega)
          have HS := hid hstep
          have HM := hid hmemt
          clear hstep hmm htr hmemt
          obtain ⟨pp, hpp⟩ : ∃ pp, pp = perm.getD p 0 := ⟨_, rfl⟩
          obtain ⟨tt, htt⟩ : ∃ tt, tt = ob.getD p 0 := ⟨_, rfl⟩
          rw [← hpp] at hpc htc hpk
          rw [← htt] at htc HS
          have HP := hid hpp
          have HT := hid htt
          clear hpp htt
          go_wp2_with fail
          refine HS.out.mono ?_
          rintro e w4 ⟨rfl, ht4, hm4, hk4⟩
          go_wp2_with fail
          go_roundw
          case rel =>
            have ht4' : TryB w4 (ob.getD p 0) 0 ((1 : Nat) : Int) (p : Int) := by rw [← HT.out]; simpa using ht4
            have hk4' : Chg [ob.getD p 0, m, l] wr w4 := by rw [← HT.out]; exact hk4
            have := h3.step (freshSts_len hp) hpq (by omega) ht4' (nx' := p + 1) (tn' := 0) (c' := p + 1) (by simpa using hm4) hk4'
            rw [freshSts_set hpq] at this
            exact ⟨p + 1, by go_num, by omega, this⟩
          case measure => simp [intOf]; omega
        · have hpq' : p = q := by omega
          subst hpq'
          rw [freshSts_end] at h3
          have h3c : L2 W m l p gT gP perm ob (simRun p 0).sts p (simRun p 0).tn (simRun p 0).c wr := h3
          clear h3
          go_wp2_with fail
          go_loopw [14, 15] (fun d r wr3 => ∃ x : Nat, r = .int .i64 x ∧ x ≤ 2 * p + 1 ∧ d = .int .i64 ((simRun p x).done : Nat) ∧ L2 W m l p gT gP perm ob (simRun p x).sts p (simRun p x).tn (simRun p x).c wr3) (fun _ r _ => 2 * p + 1 - (intOf r).toNat)
          case atStart => exact ⟨0, rfl, by omega, rfl, h3c⟩
          case round =>
            obtain ⟨x, rfl, hx, rfl, h4⟩ := hrel
            have hcs := simRun_c p x
            have hxk : x * p ≤ 17 * 8 := Nat.mul_le_mul (by omega) (by omega)
            by_cases hxp : x < 2 * p + 1
            · have hdx : decide ((x : Int) < 2 * (p : Int) + 1) = true := by simp; omega
              go_wp2_with fail
              go_loopw [14, 80, 17] (fun d j _ wr5 => ∃ y : Nat, j = .int .i64 y ∧ y ≤ p ∧ d = .int .i64 ((simUpto y (simRun p x)).done : Nat) ∧ L2 W m l p gT gP perm ob (simUpto y (simRun p x)).sts p (simUpto y (simRun p x)).tn (simUpto y (simRun p x)).c wr5) (fun _ j _ _ => p - (intOf j).toNat)
              case atStart => exact ⟨0, rfl, by omega, rfl, h4⟩
              case round =>
                obtain ⟨y, rfl, hy, rfl, h5⟩ := hrel
                have hlen : (simUpto y (simRun p x)).sts.length = p := by rw [simUpto_len, simRun_len]
                have hcy := simUpto_c y (simRun p x) hcs.2.1 hcs.2.2
                by_cases hyp : y < p
                · have hR : simUpto (y + 1) (simRun p x) = simAt (simUpto y (simRun p x)) y := rfl
                  have hC : (simUpto y (simRun p x)).c ≤ 1000 := by omega
                  obtain ⟨S, hS⟩ : ∃ S, S = simUpto y (simRun p x) := ⟨_, rfl⟩
                  rw [← hS] at h5 hlen hcy hR hC ⊢
                  clear hS hcs
                  have hpc := (h5.pc y hyp).1
                  have hpk := (h5.pc y hyp).2
                  have htc := h5.tc y hyp
                  have hmm := h5.mem
                  have htr := h5.trs y hyp
                  have hmemt := getD_mem ob y (by rw [h5.olen]; exact hyp)
                  have nm : ob.getD y 0 ≠ m := fun e => h5.ml.1 (by rw [← e]; exact hmemt)
                  have nl : ob.getD y 0 ≠ l := fun e => h5.ml.2 (by rw [← e]; exact hmemt)
                  obtain ⟨pp, hpp⟩ : ∃ pp, pp = perm.getD y 0 := ⟨_, rfl⟩
                  obtain ⟨tt, htt⟩ : ∃ tt, tt = ob.getD y 0 := ⟨_, rfl⟩
                  obtain ⟨st, hst⟩ : ∃ st, st = (S.sts.getD y (0, 0)).1 := ⟨_, rfl⟩
                  obtain ⟨tk, htk⟩ : ∃ tk, tk = (S.sts.getD y (0, 0)).2 := ⟨_, rfl⟩
                  rw [← hpp] at hpc htc hpk
                  rw [← htt] at htc htr nm nl
                  rw [← hst, ← htk] at htr
                  have HP := hid hpp
                  have HT := hid htt
                  have HX := hid (And.intro hst (And.intro htk trivial))
                  have HWh := hid (where_any tt 0 st _ wr htr)
                  have hA := hR
                  unfold simAt at hA
                  rw [← hst, ← htk] at hA
                  clear hmemt hpp htt hst htk hR
                  by_cases e2 : st = 2
                  · subst e2
                    rw [if_pos rfl] at hA
                    have HR := hid hA
                    have HL := hid (leave_ok tt m l [(p : Int), (S.tn : Int)] 0 S.c tk wr (by simpa using htr) hmm nm nl (by omega) (by simp) (by simp) (by omega) (by omega) (by simp) (by simp; omega))
                    clear htr hmm hA
                    go_wp2_with fail
                    refine HWh.out.mono ?_
                    rintro e w' ⟨rfl, rfl⟩
                    go_wp2_with fail
                    refine HL.out.mono ?_
                    rintro e w6 ⟨rfl, ht6, hm6, hk6⟩
                    go_wp2_with fail
                    go_roundw
                    case rel =>
                      have ht6' : TryB w6 (ob.getD y 0) 0 ((3 : Nat) : Int) (((S.sts.getD y (0, 0)).2 : Nat) : Int) := by rw [← HT.out, ← HX.out.2.1]; simpa using ht6
                      have hk6' : Chg [ob.getD y 0, m, l] wr w6 := by rw [← HT.out]; exact hk6.mono (by simp)
                      have hz := h5.step hlen hyp (by omega) ht6' (nx' := p) (tn' := S.tn + 1) (c' := S.c + 1) (by simpa using hm6) hk6'
                      rw [← HX.out.2.1] at hz
                      first | exact ⟨y + 1, by go_num, by omega, by (rw [HR.out]; first | rfl | go_num | skip), by rw [HR.out]; exact hz⟩ | ((repeat apply Exists.intro); exact ⟨⟨y + 1, by go_num, by omega, by (rw [HR.out]; first | rfl | go_num | skip), by rw [HR.out]; exact hz⟩, rfl⟩)
                    case measure => simp [intOf]; omega
                  · rw [if_neg e2] at hA
                    by_cases e1 : st = 1
                    · subst e1
                      rw [if_pos rfl] at hA
                      by_cases et : S.tn = tk
                      · rw [if_pos et] at hA
                        have HR := hid hA
                        have HL := hid (step_turn tt m l [(p : Int), (S.tn : Int)] 0 S.c tk wr (by simpa using htr) hmm nm nl (by simp [et]) (by omega) (by simp) (by simp) (by omega) (by omega))
                        clear htr hmm hA et
                        go_wp2_with fail
                        refine HWh.out.mono ?_
                        rintro e w' ⟨rfl, rfl⟩
                        go_wp2_with fail
                        refine HL.out.mono ?_
                        rintro e w6 ⟨rfl, ht6, hm6, hk6⟩
                        go_wp2_with fail
                        go_roundw
                        case rel =>
                          have ht6' : TryB w6 (ob.getD y 0) 0 ((2 : Nat) : Int) (((S.sts.getD y (0, 0)).2 : Nat) : Int) := by rw [← HT.out, ← HX.out.2.1]; simpa using ht6
                          have hk6' : Chg [ob.getD y 0, m, l] wr w6 := by rw [← HT.out]; exact hk6.mono (by simp)
                          have hz := h5.step hlen hyp (by omega) ht6' (nx' := p) (tn' := S.tn) (c' := S.c + 1) (by simpa using hm6) hk6'
                          rw [← HX.out.2.1] at hz
                          first | exact ⟨y + 1, by go_num, by omega, by (rw [HR.out]; first | rfl | go_num | skip), by rw [HR.out]; exact hz⟩ | ((repeat apply Exists.intro); exact ⟨⟨y + 1, by go_num, by omega, by (rw [HR.out]; first | rfl | go_num | skip), by rw [HR.out]; exact hz⟩, rfl⟩)
                        case measure => simp [intOf]; omega
                      · rw [if_neg et] at hA
                        have HR := hid hA
                        have HL := hid (step_wait tt m l [(p : Int), (S.tn : Int)] 0 S.c tk wr (by simpa using htr) hmm nm nl (by simp; omega) (by omega) (by simp) (by simp) (by omega) (by omega))
                        clear htr hmm hA et
                        go_wp2_with fail
                        refine HWh.out.mono ?_
                        rintro e w' ⟨rfl, rfl⟩
                        go_wp2_with fail
                        refine HL.out.mono ?_
                        rintro e w6 ⟨rfl, ht6, hm6, hk6⟩
                        go_wp2_with fail
                        go_roundw
                        case rel =>
                          have ht6' : TryB w6 (ob.getD y 0) 0 ((1 : Nat) : Int) (((S.sts.getD y (0, 0)).2 : Nat) : Int) := by rw [← HT.out, ← HX.out.2.1]; simpa using ht6
                          have hk6' : Chg [ob.getD y 0, m, l] wr w6 := by rw [← HT.out]; exact hk6.mono (by simp)
                          have hz := h5.step hlen hyp (by omega) ht6' (nx' := p) (tn' := S.tn) (c' := S.c + 1) (by simpa using hm6) hk6'
                          have hsame : S.sts.set y (1, (S.sts.getD y (0, 0)).2) = S.sts := by
                            rw [show (1, (S.sts.getD y (0, 0)).2) = S.sts.getD y (0, 0) from Prod.ext HX.out.1 rfl]
                            have hy' : y < S.sts.length := by omega
                            simp [List.getElem?_eq_getElem hy']
                          rw [hsame] at hz
                          first | exact ⟨y + 1, by go_num, by omega, by rw [HR.out], by rw [HR.out]; exact hz⟩ | ((repeat apply Exists.intro); exact ⟨⟨y + 1, by go_num, by omega, by rw [HR.out], by rw [HR.out]; exact hz⟩, rfl⟩)
                        case measure => simp [intOf]; omega
                    · rw [if_neg e1] at hA
                      have HR := hid hA
                      have b2 : ((st : Int) == 2) = false := beq_eq_false_iff_ne.2 (by omega)
                      have b1 : ((st : Int) == 1) = false := beq_eq_false_iff_ne.2 (by omega)
                      clear htr hmm hA
                      go_wp2_with fail
                      refine HWh.out.mono ?_
                      rintro e w' ⟨rfl, rfl⟩
                      go_wp2_with fail
                      go_roundw
                      case rel =>
                        first | exact ⟨y + 1, by go_num, by omega, by rw [HR.out], by rw [HR.out]; exact h5⟩ | ((repeat apply Exists.intro); exact ⟨⟨y + 1, by go_num, by omega, by rw [HR.out], by rw [HR.out]; exact h5⟩, rfl⟩)
                      case measure => simp [intOf]; omega
                · have hye : y = p := by omega
                  subst hye
                  go_wp2_with fail
                  go_roundw
                  case rel => exact ⟨x + 1, by go_num, by omega, rfl, h5⟩
                  case measure => simp [intOf]; omega
            · have hxe : x = 2 * p + 1 := by omega
              subst hxe
              have hb : ((((simRun p (2 * p + 1)).done : Nat) : Int) == (p : Int)) = true := by rw [sim_ends p (by omega) (by omega)]; simp
              have hCW := h4.chg
              go_wp2_with fail
              refine (runs5 _).mono ?_
              rintro e w7 ⟨rfl, hk7⟩
              go_wp2_with fail
              go_ret
              exact ⟨rfl, hCW.trans hk7⟩
end Go.Proofs.Ytfpboambhgdeoaa
