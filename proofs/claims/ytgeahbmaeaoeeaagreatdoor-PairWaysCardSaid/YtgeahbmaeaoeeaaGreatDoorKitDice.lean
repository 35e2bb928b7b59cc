/- Contracts of the dice: numbers that are given out, each below a bound. -/
import Derived.Test.YtgeahbmaeaoeeaaGreatDoorHanSha
set_option linter.unusedVariables false
set_option linter.unusedSimpArgs false
namespace Go.Proofs.YtgeahbmaeaoeeaaGreatDoor
open Go.RowKit Num

/-- A block of cells that is known whole. -/
def Blk (w : World) (g : Nat) (t : TypeId) (cs : Array Value) : Prop := w.heap[g]? = some (.cells cs t (0, 0))
section
variable {w w' : World} {g : Nat} {t : TypeId} {cs : Array Value}
theorem Blk.lt (h : Blk w g t cs) : g < w.heap.size := by
  rcases Nat.lt_or_ge g w.heap.size with hlt | hge
  · exact hlt
  · unfold Blk at h; rw [Array.getElem?_eq_none hge] at h; cases h
theorem Blk.cell (h : Blk w g t cs) (i : Nat) : w.cell? ⟨g, i, none⟩ = cs[i]? := cell_of_row w g i cs t (0, 0) h
theorem Blk.frozen (h : Blk w g t cs) (i : Nat) : w.frozen? ⟨g, i, none⟩ = false := by
  unfold Blk at h
  simp [World.frozen?, h]
theorem Blk.new (w : World) (t : TypeId) (cs : Array Value) : Blk (w.alloc (.cells cs t)) w.heap.size t cs := heap_alloc_new w _
theorem Blk.drew (h : Blk w g t cs) : Blk w.drew g t cs := h
theorem Blk.drewN (h : Blk w g t cs) (n : Nat) : Blk (w.drewN n) g t cs := h
theorem Blk.alloc (h : Blk w g t cs) (o : Obj) : Blk (w.alloc o) g t cs := (Below.heap_alloc w o g h.lt).trans h
theorem Blk.set_ (h : Blk w g t cs) (i : Nat) (u : Value) : Blk (w.setCell ⟨g, i, none⟩ u) g t (cs.setIfInBounds i u) := by
  unfold Blk at h ⊢
  simp [World.setCell, Array.getElem?_modify, h]
theorem Blk.far (h : Blk w g t cs) {p : Addr} (hp : g ≠ p.block) (u : Value) : Blk (w.setCell p u) g t cs := (Below.heap_setCell w p u g hp).trans h
end

/-- The dice that lie in a block: a list of numbers that lies below, and a place in it. -/
def Dc (w : World) (b : Nat) : Prop := ∃ (A : Option Addr) (n c k : Nat) (L : Nat → Int), Blk w b 70 #[.slice A n c, .int .i64 (k : Int)] ∧ n ≤ 500 ∧ k ≤ n ∧
  (0 < n → ∃ b0 off, A = some ⟨b0, off, none⟩ ∧ b0 < b ∧ ∀ i, i < n → w.cell? ⟨b0, off + i, none⟩ = some (.int .i64 (L i)))
theorem Dc.lt {w : World} {b : Nat} (h : Dc w b) : b < w.heap.size := by
  obtain ⟨A, n, c, k, L, hb, _⟩ := h; exact hb.lt
theorem Dc.keep {w w' : World} {b : Nat} (h : Dc w b) (hk : ∀ i, i ≤ b → w'.heap[i]? = w.heap[i]?) : Dc w' b := by
  obtain ⟨A, n, c, k, L, hb, h1, h2, h3⟩ := h
  refine ⟨A, n, c, k, L, (hk b (Nat.le_refl b)).trans hb, h1, h2, fun hn => ?_⟩
  obtain ⟨b0, off, hA, hlt, hc⟩ := h3 hn
  exact ⟨b0, off, hA, hlt, fun i hi => (World.cell?_of_block (hk b0 (by omega))).trans (hc i hi)⟩
theorem Dc.below {w w' : World} {b B : Nat} (h : Dc w b) (hb : Below B w w') (hB : b < B) : Dc w' b := h.keep fun i hi => hb.block i (by omega)
theorem Dc.grown {w w' : World} {b : Nat} {row : Option Nat} (h : Dc w b) (hg : w.grownBy w' row) (hr : ∀ g, row = some g → b < g) : Dc w' b :=
  h.keep fun i hi => hg.block i (by have := h.lt; omega) (fun e => by have := hr i e.symm; omega)
theorem Dc.alloc {w : World} {b : Nat} (h : Dc w b) (o : Obj) : Dc (w.alloc o) b := h.below ((Below.refl _ _).alloc (Nat.le_refl _) _) h.lt
theorem Dc.drew {w : World} {b : Nat} (h : Dc w b) : Dc w.drew b := h
theorem Dc.drewN {w : World} {b : Nat} (h : Dc w b) (n : Nat) : Dc (w.drewN n) b := h

/-- A list that came in, of at most 500 numbers. -/
def ArgL (w : World) (v : Value) : Prop := ∃ (A : Option Addr) (n c : Nat) (L : Nat → Int), v = .slice A n c ∧ n ≤ 500 ∧
  (0 < n → ∃ b0 off, A = some ⟨b0, off, none⟩ ∧ b0 < w.heap.size ∧ ∀ i, i < n → w.cell? ⟨b0, off + i, none⟩ = some (.int .i64 (L i)))

set_option maxHeartbeats 400000 in
theorem k_Mod (n m : Int) (w : World) (h1 : 1 ≤ m) (h2 : m ≤ 2305843009213693952) :
    Calls Tryz.prog 21 #[.int .i64 n, .int .i64 m] w fun e w' => e = .returned (.int .i64 (n % m)) ∧ w = w' := by
  have ht := Int.tmod_lt_of_pos n (b := m) (by omega)
  have ht' : -m < n.tmod m := Int.lt_tmod_of_pos n (by omega)
  go_enter Tryz.func21, Tryz.ntmps21
  go_wp2
  go_ret
  refine ⟨ret_int ?_, rfl⟩
  have e : (n.tmod m + m).tmod m = (n.tmod m + m) % m := Int.tmod_eq_emod_of_nonneg (by omega)
  first | (rw [e, Int.add_emod_right, ← emod_tmod]) | (rw [Int.add_emod_right, ← emod_tmod]) | (rw [← emod_tmod])
set_option maxHeartbeats 400000 in
theorem k_Light (A : Option Addr) (n c : Nat) (w : World) (h : n ≤ 9223372036854775807) :
    Calls Tryz.prog 5 #[.slice A n c] w fun e w' => e = .returned (.bool (decide ((n : Int) ≤ 500))) ∧ w = w' := by
  go_enter Tryz.func5, Tryz.ntmps5
  go_wp2
  go_ret
  exact ⟨by simp, rfl⟩
set_option maxHeartbeats 400000 in
theorem k_Roll (v : Value) (w : World) (h : ArgL w v) :
    Calls Tryz.prog 7 #[v] w fun e w' => e = .returned (.pointer (some ⟨w.heap.size, 0, none⟩)) ∧ Dc w' w.heap.size ∧ Below w.heap.size w w' := by
  obtain ⟨A, n, c, L, rfl, h1, h2⟩ := h
  go_enter Tryz.func7, Tryz.ntmps7
  go_wp2
  go_ret
  refine ⟨rfl, ⟨A, n, c, 0, L, Blk.new _ _ _, h1, Nat.zero_le _, fun hn => ?_⟩, (Below.refl _ _).alloc (Nat.le_refl _) _⟩
  obtain ⟨b0, off, hA, hlt, hc⟩ := h2 hn
  exact ⟨b0, off, hA, hlt, fun i hi => (World.cell?_alloc_lt w _ ⟨b0, off + i, none⟩ hlt).trans (hc i hi)⟩

def NextPost (b n : Nat) (w : World) (e : Ending) (w' : World) : Prop := ∃ r : Nat, r < n ∧ e = .returned (.int .i64 (r : Int)) ∧ Dc w' b ∧ w.grownBy w' (some b)
theorem quiet_left' {P : Program} {f : FuncId} {args : Array Value} {w : World} {n : Nat} {v : Value}
    (h : Calls P f args (w.drewN n) fun e w' => e = .returned v ∧ w.drewN n = w') : Calls P f args (w.drewN n) fun e w'' => e = .returned v ∧ ∃ m, w'' = w.drewN m :=
  h.mono fun _ _ ⟨he, hm⟩ => ⟨he, n, hm.symm⟩
theorem quiet_add_left {P : Program} {f : FuncId} {args : Array Value} {w : World} {a n : Nat} {v : Value}
    (h : Calls P f args (w.drewN (a + n)) fun e w' => e = .returned v ∧ w.drewN (a + n) = w') :
    Calls P f args (w.drewN (a + n)) fun e w'' => e = .returned v ∧ ∃ m, w'' = w.drewN (a + m) :=
  h.mono fun _ _ ⟨he, hm⟩ => ⟨he, n, hm.symm⟩
set_option maxHeartbeats 1000000 in
theorem k_Next (b n : Nat) (w : World) (hd : Dc w b) (h1 : 1 ≤ n) (h2 : n ≤ 2305843009213693952) :
    Calls Tryz.prog 8 #[.pointer (some ⟨b, 0, none⟩), .int .i64 (n : Int)] w (NextPost b n w) := by
  obtain ⟨A, m, c, k, L, hb, hm, hk, hL⟩ := id hd
  have c0 : w.cell? ⟨b, 0, none⟩ = some (.slice A m c) := hb.cell 0
  have c1 : w.cell? ⟨b, 1, none⟩ = some (.int .i64 (k : Int)) := hb.cell 1
  have f1 := hb.frozen 1
  by_cases hkm : k < m
  · obtain ⟨b0, off, rfl, hlt, hc⟩ := hL (by omega)
    have ck := hc k hkm
    have hne : (⟨b, 1, none⟩ : Addr) ≠ ⟨b0, off + k, none⟩ := by intro e; injection e with e1; omega
    have c0' : (w.setCell ⟨b, 1, none⟩ (.int .i64 ((k : Int) + 1))).cell? ⟨b, 0, none⟩ = some (.slice (some ⟨b0, off, none⟩) m c) := by
      rw [World.cell?_setCell_other _ _ _ _ (by intro e; injection e with e1 e2; cases e2)]; exact c0
    have ck' : (w.setCell ⟨b, 1, none⟩ (.int .i64 ((k : Int) + 1))).cell? ⟨b0, off + k, none⟩ = some (.int .i64 (L k)) := by
      rw [World.cell?_setCell_other _ _ _ _ hne]; exact ck
    have HC := Lib.hid hc
    have HB := Lib.hid hb
    clear hc hb hL
    go_enter Tryz.func8, Tryz.ntmps8
    go_wp2_with fail
    go_quiet (fail)
    go_wp2_with fail
    have hB2 : Blk ((w.drewN nq).setCell ⟨b, 1, none⟩ (.int .i64 ((k : Int) + 1))) b 70 #[.slice (some ⟨b0, off, none⟩) m c, .int .i64 ((k : Int) + 1)] := (HB.out.drewN nq).set_ 1 _
    have hg2 : w.grownBy ((w.drewN nq).setCell ⟨b, 1, none⟩ (.int .i64 ((k : Int) + 1))) (some b) := only_setCell (only_drewN (World.grownBy.refl w _) _) (.inl rfl) _
    generalize hwq : (w.drewN nq).setCell ⟨b, 1, none⟩ (.int .i64 ((k : Int) + 1)) = wq at *
    have d0 : wq.cell? ⟨b, 0, none⟩ = some (.slice (some ⟨b0, off, none⟩) m c) := hB2.cell 0
    have d1 : wq.cell? ⟨b, 1, none⟩ = some (.int .i64 ((k : Int) + 1)) := hB2.cell 1
    have dk : wq.cell? ⟨b0, off + k, none⟩ = some (.int .i64 (L k)) := (World.cell?_of_block (hg2.block b0 (by have := HB.out.lt; omega) (by simp; omega))).trans (HC.out k hkm)
    have q1 : (0 : Int) ≤ (k : Int) := by omega
    have q2 : (k : Int) < (m : Int) := by omega
    clear hwq c0 c1 f1 ck c0' ck' hne
    go_quiet ((go_at_call 21; exact quiet_left' (k_Mod _ _ _ (by omega) (by omega))))
    go_wp2_with fail
    go_ret
    have r0 := Int.emod_nonneg (L k) (show (n : Int) ≠ 0 by omega)
    have r1 := Int.emod_lt_of_pos (L k) (show (0 : Int) < (n : Int) by omega)
    refine ⟨((L k) % (n : Int)).toNat, by omega, ?_, ?_, only_drewN hg2 _⟩
    · show Ending.returned (.int .i64 (L k % (n : Int))) = _
      rw [Int.toNat_of_nonneg r0]
    · refine Dc.drewN ⟨_, m, c, k + 1, L, ?_, hm, by omega, fun _ => ⟨b0, off, rfl, hlt, fun i hi => ?_⟩⟩ _
      · have := hB2; rwa [show ((k : Int) + 1) = ((k + 1 : Nat) : Int) by omega] at this
      · exact (World.cell?_of_block (hg2.block b0 (by have := HB.out.lt; omega) (by simp; omega))).trans (HC.out i hi)
  · go_enter Tryz.func8, Tryz.ntmps8
    have hd2 := Lib.hid hd
    clear hL hb hd
    go_wp2_with fail
    go_quiet (fail)
    go_wp2_with fail
    go_ret
    exact ⟨0, by omega, rfl, hd2.out.drewN _, only_drewN (World.grownBy.refl w _) _⟩
theorem gb_trans {a b c : World} {g : Nat} (h : a.grownBy b (some g)) (k : b.grownBy c (some g)) : a.grownBy c (some g) :=
  ⟨k.os.trans h.os, k.tape.trans h.tape, k.output.trans h.output, Nat.le_trans h.size k.size, fun i hi hn => (k.block i (Nat.lt_of_lt_of_le hi h.size) hn).trans (h.block i hi hn)⟩
/-- The nine safe primes, by the dice. -/
def SafePost (b : Nat) (w : World) (e : Ending) (w' : World) : Prop := ∃ p : Nat, Num.Safe p ∧ e = .returned (.int .i64 (p : Int)) ∧ Dc w' b ∧ w.grownBy w' (some b)
end Go.Proofs.YtgeahbmaeaoeeaaGreatDoor
