/- Contracts of the dice: numbers that are given out, each below a bound. Contracts of the reference's field, polynomials and plans. -/
import Derived.Test.YtgeahbmaeaoeeaaGreatDoorQ03
import Derived.Test.YtgeahbmaeaoeeaaGreatDoorQ02
set_option linter.unusedVariables false
set_option linter.unusedSimpArgs false
namespace Go.Proofs.YtgeahbmaeaoeeaaGreatDoor
open Go.RowKit Num

/-- A block of cells that is known whole. -/
def Blk (w : World) (g : Nat) (t : TypeId) (cs : Array Value) : Prop := w.heap[g]? = some (.cells cs t (0, 0))
section
variable {w w' : World} {g : Nat} {t : TypeId} {cs : Array Value}
theorem Blk.lt (h : Blk w g t cs) : g < w.heap.size := by
  rcases Nat.lt_or_ge g w.heap.size with hlt | hge
  · exact hlt
  · unfold Blk at h; rw [Array.getElem?_eq_none hge] at h; cases h
theorem Blk.cell (h : Blk w g t cs) (i : Nat) : w.cell? ⟨g, i, none⟩ = cs[i]? := cell_of_row w g i cs t (0, 0) h
theorem Blk.frozen (h : Blk w g t cs) (i : Nat) : w.frozen? ⟨g, i, none⟩ = false := by
  unfold Blk at h
  simp [World.frozen?, h]
theorem Blk.new (w : World) (t : TypeId) (cs : Array Value) : Blk (w.alloc (.cells cs t)) w.heap.size t cs := heap_alloc_new w _
theorem Blk.drew (h : Blk w g t cs) : Blk w.drew g t cs := h
theorem Blk.drewN (h : Blk w g t cs) (n : Nat) : Blk (w.drewN n) g t cs := h
theorem Blk.alloc (h : Blk w g t cs) (o : Obj) : Blk (w.alloc o) g t cs := (Below.heap_alloc w o g h.lt).trans h
theorem Blk.set_ (h : Blk w g t cs) (i : Nat) (u : Value) : Blk (w.setCell ⟨g, i, none⟩ u) g t (cs.setIfInBounds i u) := by
  unfold Blk at h ⊢
  simp [World.setCell, Array.getElem?_modify, h]
theorem Blk.far (h : Blk w g t cs) {p : Addr} (hp : g ≠ p.block) (u : Value) : Blk (w.setCell p u) g t cs := (Below.heap_setCell w p u g hp).trans h
end

/-- The dice that lie in a block: a list of numbers that lies below, and a place in it. -/
def Dc (w : World) (b : Nat) : Prop := ∃ (A : Option Addr) (n c k : Nat) (L : Nat → Int), Blk w b 70 #[.slice A n c, .int .i64 (k : Int)] ∧ n ≤ 500 ∧ k ≤ n ∧
  (0 < n → ∃ b0 off, A = some ⟨b0, off, none⟩ ∧ b0 < b ∧ ∀ i, i < n → w.cell? ⟨b0, off + i, none⟩ = some (.int .i64 (L i)))
theorem Dc.lt {w : World} {b : Nat} (h : Dc w b) : b < w.heap.size := by
  obtain ⟨A, n, c, k, L, hb, _⟩ := h; exact hb.lt
theorem Dc.keep {w w' : World} {b : Nat} (h : Dc w b) (hk : ∀ i, i ≤ b → w'.heap[i]? = w.heap[i]?) : Dc w' b := by
  obtain ⟨A, n, c, k, L, hb, h1, h2, h3⟩ := h
  refine ⟨A, n, c, k, L, (hk b (Nat.le_refl b)).trans hb, h1, h2, fun hn => ?_⟩
  obtain ⟨b0, off, hA, hlt, hc⟩ := h3 hn
  exact ⟨b0, off, hA, hlt, fun i hi => (World.cell?_of_block (hk b0 (by omega))).trans (hc i hi)⟩
theorem Dc.below {w w' : World} {b B : Nat} (h : Dc w b) (hb : Below B w w') (hB : b < B) : Dc w' b := h.keep fun i hi => hb.block i (by omega)
theorem Dc.grown {w w' : World} {b : Nat} {row : Option Nat} (h : Dc w b) (hg : w.grownBy w' row) (hr : ∀ g, row = some g → b < g) : Dc w' b :=
  h.keep fun i hi => hg.block i (by have := h.lt; omega) (fun e => by have := hr i e.symm; omega)
theorem Dc.alloc {w : World} {b : Nat} (h : Dc w b) (o : Obj) : Dc (w.alloc o) b := h.below ((Below.refl _ _).alloc (Nat.le_refl _) _) h.lt
theorem Dc.drew {w : World} {b : Nat} (h : Dc w b) : Dc w.drew b := h
theorem Dc.drewN {w : World} {b : Nat} (h : Dc w b) (n : Nat) : Dc (w.drewN n) b := h

/-- A list that came in, of at most 500 numbers. -/
def ArgL (w : World) (v : Value) : Prop := ∃ (A : Option Addr) (n c : Nat) (L : Nat → Int), v = .slice A n c ∧ n ≤ 500 ∧
  (0 < n → ∃ b0 off, A = some ⟨b0, off, none⟩ ∧ b0 < w.heap.size ∧ ∀ i, i < n → w.cell? ⟨b0, off + i, none⟩ = some (.int .i64 (L i)))

set_option maxHeartbeats 400000 in
theorem k_Mod (n m : Int) (w : World) (h1 : 1 ≤ m) (h2 : m ≤ 2305843009213693952) :
    Calls Tryz.prog 21 #[.int .i64 n, .int .i64 m] w fun e w' => e = .returned (.int .i64 (n % m)) ∧ w = w' := by
  have ht := Int.tmod_lt_of_pos n (b := m) (by omega)
  have ht' : -m < n.tmod m := Int.lt_tmod_of_pos n (by omega)
  go_enter Tryz.func21, Tryz.ntmps21
  go_wp2
  go_ret
  refine ⟨ret_int ?_, rfl⟩
  have e : (n.tmod m + m).tmod m = (n.tmod m + m) % m := Int.tmod_eq_emod_of_nonneg (by omega)
  first | (rw [e, Int.add_emod_right, ← emod_tmod]) | (rw [Int.add_emod_right, ← emod_tmod]) | (rw [← emod_tmod])
set_option maxHeartbeats 400000 in
theorem k_Light (A : Option Addr) (n c : Nat) (w : World) (h : n ≤ 9223372036854775807) :
    Calls Tryz.prog 5 #[.slice A n c] w fun e w' => e = .returned (.bool (decide ((n : Int) ≤ 500))) ∧ w = w' := by
  go_enter Tryz.func5, Tryz.ntmps5
  go_wp2
  go_ret
  exact ⟨by simp, rfl⟩
set_option maxHeartbeats 400000 in
theorem k_Roll (v : Value) (w : World) (h : ArgL w v) :
    Calls Tryz.prog 7 #[v] w fun e w' => e = .returned (.pointer (some ⟨w.heap.size, 0, none⟩)) ∧ Dc w' w.heap.size ∧ Below w.heap.size w w' := by
  obtain ⟨A, n, c, L, rfl, h1, h2⟩ := h
  go_enter Tryz.func7, Tryz.ntmps7
  go_wp2
  go_ret
  refine ⟨rfl, ⟨A, n, c, 0, L, Blk.new _ _ _, h1, Nat.zero_le _, fun hn => ?_⟩, (Below.refl _ _).alloc (Nat.le_refl _) _⟩
  obtain ⟨b0, off, hA, hlt, hc⟩ := h2 hn
  exact ⟨b0, off, hA, hlt, fun i hi => (World.cell?_alloc_lt w _ ⟨b0, off + i, none⟩ hlt).trans (hc i hi)⟩

def NextPost (b n : Nat) (w : World) (e : Ending) (w' : World) : Prop := ∃ r : Nat, r < n ∧ e = .returned (.int .i64 (r : Int)) ∧ Dc w' b ∧ w.grownBy w' (some b)
theorem quiet_left' {P : Program} {f : FuncId} {args : Array Value} {w : World} {n : Nat} {v : Value}
    (h : Calls P f args (w.drewN n) fun e w' => e = .returned v ∧ w.drewN n = w') : Calls P f args (w.drewN n) fun e w'' => e = .returned v ∧ ∃ m, w'' = w.drewN m :=
  h.mono fun _ _ ⟨he, hm⟩ => ⟨he, n, hm.symm⟩
theorem quiet_add_left {P : Program} {f : FuncId} {args : Array Value} {w : World} {a n : Nat} {v : Value}
    (h : Calls P f args (w.drewN (a + n)) fun e w' => e = .returned v ∧ w.drewN (a + n) = w') :
    Calls P f args (w.drewN (a + n)) fun e w'' => e = .returned v ∧ ∃ m, w'' = w.drewN (a + m) :=
  h.mono fun _ _ ⟨he, hm⟩ => ⟨he, n, hm.symm⟩
set_option maxHeartbeats 1000000 in
theorem k_Next (b n : Nat) (w : World) (hd : Dc w b) (h1 : 1 ≤ n) (h2 : n ≤ 2305843009213693952) :
    Calls Tryz.prog 8 #[.pointer (some ⟨b, 0, none⟩), .int .i64 (n : Int)] w (NextPost b n w) := by
  obtain ⟨A, m, c, k, L, hb, hm, hk, hL⟩ := id hd
  have c0 : w.cell? ⟨b, 0, none⟩ = some (.slice A m c) := hb.cell 0
  have c1 : w.cell? ⟨b, 1, none⟩ = some (.int .i64 (k : Int)) := hb.cell 1
  have f1 := hb.frozen 1
  by_cases hkm : k < m
  · obtain ⟨b0, off, rfl, hlt, hc⟩ := hL (by omega)
    have ck := hc k hkm
    have hne : (⟨b, 1, none⟩ : Addr) ≠ ⟨b0, off + k, none⟩ := by intro e; injection e with e1; omega
    have c0' : (w.setCell ⟨b, 1, none⟩ (.int .i64 ((k : Int) + 1))).cell? ⟨b, 0, none⟩ = some (.slice (some ⟨b0, off, none⟩) m c) := by
      rw [World.cell?_setCell_other _ _ _ _ (by intro e; injection e with e1 e2; cases e2)]; exact c0
    have ck' : (w.setCell ⟨b, 1, none⟩ (.int .i64 ((k : Int) + 1))).cell? ⟨b0, off + k, none⟩ = some (.int .i64 (L k)) := by
      rw [World.cell?_setCell_other _ _ _ _ hne]; exact ck
    have HC := Lib.hid hc
    have HB := Lib.hid hb
    clear hc hb hL
    go_enter Tryz.func8, Tryz.ntmps8
    go_wp2_with fail
    go_quiet (fail)
    go_wp2_with fail
    have hB2 : Blk ((w.drewN nq).setCell ⟨b, 1, none⟩ (.int .i64 ((k : Int) + 1))) b 70 #[.slice (some ⟨b0, off, none⟩) m c, .int .i64 ((k : Int) + 1)] := (HB.out.drewN nq).set_ 1 _
    have hg2 : w.grownBy ((w.drewN nq).setCell ⟨b, 1, none⟩ (.int .i64 ((k : Int) + 1))) (some b) := only_setCell (only_drewN (World.grownBy.refl w _) _) (.inl rfl) _
    generalize hwq : (w.drewN nq).setCell ⟨b, 1, none⟩ (.int .i64 ((k : Int) + 1)) = wq at *
    have d0 : wq.cell? ⟨b, 0, none⟩ = some (.slice (some ⟨b0, off, none⟩) m c) := hB2.cell 0
    have d1 : wq.cell? ⟨b, 1, none⟩ = some (.int .i64 ((k : Int) + 1)) := hB2.cell 1
    have dk : wq.cell? ⟨b0, off + k, none⟩ = some (.int .i64 (L k)) := (World.cell?_of_block (hg2.block b0 (by have := HB.out.lt; omega) (by simp; omega))).trans (HC.out k hkm)
    have q1 : (0 : Int) ≤ (k : Int) := by omega
    have q2 : (k : Int) < (m : Int) := by omega
    clear hwq c0 c1 f1 ck c0' ck' hne
    go_quiet ((go_at_call 21; exact quiet_left' (k_Mod _ _ _ (by omega) (by omega))))
    go_wp2_with fail
    go_ret
    have r0 := Int.emod_nonneg (L k) (show (n : Int) ≠ 0 by omega)
    have r1 := Int.emod_lt_of_pos (L k) (show (0 : Int) < (n : Int) by omega)
    refine ⟨((L k) % (n : Int)).toNat, by omega, ?_, ?_, only_drewN hg2 _⟩
    · show Ending.returned (.int .i64 (L k % (n : Int))) = _
      rw [Int.toNat_of_nonneg r0]
    · refine Dc.drewN ⟨_, m, c, k + 1, L, ?_, hm, by omega, fun _ => ⟨b0, off, rfl, hlt, fun i hi => ?_⟩⟩ _
      · have := hB2; rwa [show ((k : Int) + 1) = ((k + 1 : Nat) : Int) by omega] at this
      · exact (World.cell?_of_block (hg2.block b0 (by have := HB.out.lt; omega) (by simp; omega))).trans (HC.out i hi)
  · go_enter Tryz.func8, Tryz.ntmps8
    have hd2 := Lib.hid hd
    clear hL hb hd
    go_wp2_with fail
    go_quiet (fail)
    go_wp2_with fail
    go_ret
    exact ⟨0, by omega, rfl, hd2.out.drewN _, only_drewN (World.grownBy.refl w _) _⟩
theorem gb_trans {a b c : World} {g : Nat} (h : a.grownBy b (some g)) (k : b.grownBy c (some g)) : a.grownBy c (some g) :=
  ⟨k.os.trans h.os, k.tape.trans h.tape, k.output.trans h.output, Nat.le_trans h.size k.size, fun i hi hn => (k.block i (Nat.lt_of_lt_of_le hi h.size) hn).trans (h.block i hi hn)⟩
/-- The nine safe primes, by the dice. -/
def SafePost (b : Nat) (w : World) (e : Ending) (w' : World) : Prop := ∃ p : Nat, Num.Safe p ∧ e = .returned (.int .i64 (p : Int)) ∧ Dc w' b ∧ w.grownBy w' (some b)
end Go.Proofs.YtgeahbmaeaoeeaaGreatDoor
namespace Go.Proofs.YtgeahbmaeaoeeaaGreatDoor
open Go.RowKit Num

/-- A slice of numbers, its cells in a block of S. -/
def IntsAt (w : World) (S : Nat → Prop) (v : Value) (xs : List Int) : Prop :=
  ∃ (A : Option Addr) (n c : Nat), v = .slice A n c ∧ n = xs.length ∧ n ≤ c ∧ (0 < n → ∃ b off, A = some ⟨b, off, none⟩ ∧ S b ∧ ∀ k, k < n → w.cell? ⟨b, off + k, none⟩ = some (.int .i64 (xs.getD k 0)))
theorem IntsAt.keep {w w' : World} {S : Nat → Prop} {v : Value} {xs : List Int} (h : IntsAt w S v xs) (hk : ∀ b, S b → w'.heap[b]? = w.heap[b]?) : IntsAt w' S v xs := by
  obtain ⟨A, n, c, h1, h2, h3, h4⟩ := h
  refine ⟨A, n, c, h1, h2, h3, fun hn => ?_⟩
  obtain ⟨b, off, hA, hS, hc⟩ := h4 hn
  exact ⟨b, off, hA, hS, fun k hk' => (World.cell?_of_block (hk b hS)).trans (hc k hk')⟩
theorem IntsAt.mono {w : World} {S T : Nat → Prop} {v : Value} {xs : List Int} (h : IntsAt w S v xs) (hk : ∀ b, S b → T b) : IntsAt w T v xs := by
  obtain ⟨A, n, c, h1, h2, h3, h4⟩ := h
  refine ⟨A, n, c, h1, h2, h3, fun hn => ?_⟩
  obtain ⟨b, off, hA, hS, hc⟩ := h4 hn
  exact ⟨b, off, hA, hk b hS, hc⟩
/-- The blocks of a world. -/
def Old (w : World) (b : Nat) : Prop := b < w.heap.size
theorem IntsAt.below {w w' : World} {B : Nat} {v : Value} {xs : List Int} (h : IntsAt w (· < B) v xs) (hb : Below B w w') : IntsAt w' (· < B) v xs := h.keep fun b hB => hb.block b hB
theorem IntsAt.of_own {w : World} {B : Nat} {v : Value} {n : Nat} {xs : List Int} (h : w.ownsRow B 3 1 v n (xs.map (Value.int .i64))) : IntsAt w (fun b => B ≤ b ∧ b < w.heap.size) v xs := by
  have hl : n = xs.length := by have := h.1; simp at this; omega
  rcases h.2 with ⟨rfl, h0⟩ | ⟨g, cap, cur, rfl, hB, hh, hnc, hm, hs, ht⟩
  · exact ⟨none, 0, 0, rfl, by omega, Nat.le_refl _, fun h => by omega⟩
  · refine ⟨_, n, cap, rfl, hl, hnc, fun hn => ⟨g, 0, rfl, ⟨hB, (Array.getElem?_eq_some_iff.1 hh).1⟩, fun k hk => ?_⟩⟩
    have hc := h.cells (g := g) rfl k (.int .i64 (xs.getD k 0)) (by rw [List.getElem?_map, List.getElem?_eq_getElem (show k < xs.length by omega), List.getD_eq_getElem?_getD, List.getElem?_eq_getElem (show k < xs.length by omega)]; rfl)
    have ha : (⟨g, 0, none⟩ : Addr).add k = ⟨g, 0 + k, none⟩ := by unfold Addr.add; split <;> simp_all
    rwa [ha] at hc

/-- All are elements. -/
def InF (p : Nat) (xs : List Int) : Prop := ∀ k, k < xs.length → 0 ≤ xs.getD k 0 ∧ xs.getD k 0 < p

set_option maxHeartbeats 400000 in
theorem r_Valid (p : Nat) (w : World) (hp : Prm p) (h2 : p ≤ 1073741824) :
    Calls Tryz.prog 47 #[.int .i64 (p : Int)] w fun e w' => e = .returned (.bool true) ∧ w = w' := by
  have hp2 := hp.1
  go_enter Tryz.func47, Tryz.ntmps47
  go_wp2_with fail
  go_loop [3] (fun i => ∃ d : Nat, 2 ≤ d ∧ d ≤ 32769 ∧ i = .int .i64 d) (fun i => 32769 - (intOf i).toNat)
  case atStart => exact ⟨2, by omega, by omega, rfl⟩
  case round =>
    obtain ⟨d, hd2, hd3, rfl⟩ := hrel
    have sq : d * d ≤ 32769 * 32769 := Nat.mul_le_mul hd3 hd3
    have e1 : ((d : Int) * (d : Int)) = ((d * d : Nat) : Int) := (Int.natCast_mul d d).symm
    have b0 : (0 : Int) ≤ (d : Int) * (d : Int) := by omega
    have b1 : (d : Int) * (d : Int) ≤ 1073807361 := by omega
    by_cases hl : d * d ≤ p
    · have hdd : d ≤ 32768 := by
        rcases Nat.lt_or_ge 32768 d with h | h
        · have := Nat.mul_le_mul h h; omega
        · exact h
      have hdp : d < p := by
        have : d * 2 ≤ d * d := Nat.mul_le_mul_left d hd2
        omega
      have hm : p % d ≠ 0 := fun h => by
        rcases hp.2 d (Nat.dvd_of_mod_eq_zero h) with h' | h' <;> omega
      have t1 : decide ((d : Int) * (d : Int) ≤ (p : Int)) = true := decide_eq_true (by omega)
      have t2 : ((p : Int) % (d : Int) == 0) = false := by
        rw [← Int.natCast_emod]
        simp only [beq_eq_false_iff_ne]; omega
      have E1 := Lib.hid e1
      clear e1 hm sq hl
      go_wp2_with fail
      go_round
      case rel => exact ⟨d + 1, by omega, by omega, by go_num⟩
      case measure => simp [intOf]; omega
    · have t1 : decide ((d : Int) * (d : Int) ≤ (p : Int)) = false := decide_eq_false (by omega)
      clear e1 sq hl
      go_wp2_with fail
      go_ret
      exact ⟨rfl, rfl⟩

set_option maxHeartbeats 400000 in
theorem r_Elements (p : Nat) (v : Value) (xs : List Int) (S : Nat → Prop) (w : World) (hp : Prm p) (h2 : p ≤ 1073741824) (hv : IntsAt w S v xs) (hl : xs.length ≤ 1000000) (hx : InF p xs) :
    Calls Tryz.prog 23 #[.int .i64 (p : Int), v] w fun e w' => e = .returned (.bool true) ∧ w = w' := by
  obtain ⟨A, n, c, rfl, hn, hnc, hc⟩ := hv
  go_enter Tryz.func23, Tryz.ntmps23
  have HN := Lib.hid hn
  have hn' : n ≤ 1000000 := by omega
  clear hn
  go_wp2_with fail
  go_loop [9] (fun i => ∃ k : Nat, k ≤ n ∧ i = .int .i64 k) (fun i => n - (intOf i).toNat)
  case atStart => exact ⟨0, by omega, rfl⟩
  case round =>
    obtain ⟨k, hk, rfl⟩ := hrel
    by_cases hl : k < n
    · obtain ⟨b, off, rfl, hS, hcell⟩ := hc (by omega)
      have ck := hcell k hl
      have bk := hx k (by rw [← HN.out]; exact hl)
      obtain ⟨x, hxx⟩ : ∃ x, xs.getD k 0 = x := ⟨_, rfl⟩
      rw [hxx] at ck bk
      have q1 : (k : Int) < (n : Int) := by omega
      clear hcell hxx
      go_wp2_with fail
      go_round
      case rel => exact ⟨k + 1, by omega, by go_num⟩
      case measure => simp [intOf]; omega
    · go_wp2_with fail
      refine (r_Valid p _ hp h2).mono ?_
      rintro e w' ⟨rfl, rfl⟩
      go_wp2_with fail
      go_ret
      exact ⟨rfl, rfl⟩

/-- A polynomial's value by Horner's way, modulo p at each step. -/
def evH (p x : Int) : List Int → Int
  | [] => 0
  | c :: l => (evH p x l * x + c) % p
theorem evH_cg (p x : Int) : ∀ l, Cg p (evH p x l) (ev l x) := by
  intro l
  induction l with
  | nil => exact Cg.refl _ _
  | cons c l ih =>
    show Cg p ((evH p x l * x + c) % p) (c + x * ev l x)
    have := (ih.mul (Cg.refl p x)).add (Cg.refl p c)
    rw [Int.mul_comm (ev l x), Int.add_comm (x * ev l x)] at this
    exact Cg.of_emod this
theorem evH_bd (p : Nat) (x : Int) (hp : 1 ≤ p) : ∀ l, 0 ≤ evH p x l ∧ evH p x l < p := by
  intro l
  cases l with
  | nil => exact ⟨Int.le_refl _, by show (0 : Int) < p; omega⟩
  | cons c l => exact ⟨Int.emod_nonneg _ (by omega), Int.emod_lt_of_pos _ (by omega)⟩
theorem drop_get (l : List Int) (k : Nat) (h : k < l.length) : l.drop k = l.getD k 0 :: l.drop (k + 1) := by
  rw [List.drop_eq_getElem_cons h, List.getD_eq_getElem?_getD, List.getElem?_eq_getElem h]; rfl
set_option maxHeartbeats 1000000 in
theorem r_Eval (p x : Nat) (v : Value) (xs : List Int) (S : Nat → Prop) (w : World) (hp1 : 1 ≤ p) (h2 : p ≤ 1073741824) (hx1 : x < 2147483648) (hv : IntsAt w S v xs) (hl : xs.length ≤ 1000000) (hx : InF p xs) :
    Calls Tryz.prog 25 #[.int .i64 (p : Int), v, .int .i64 (x : Int)] w fun e w' => e = .returned (.int .i64 (evH p x xs)) ∧ w = w' := by
  obtain ⟨A, n, c, rfl, hn, hnc, hc⟩ := hv
  have ed : ∀ k, k < n → evH p x (xs.drop k) = (evH p x (xs.drop (k + 1)) * x + xs.getD k 0) % p := fun k hk => by
    rw [drop_get xs k (by omega)]; rfl
  have e0 : evH p x xs = evH p x (xs.drop 0) := by simp
  have en : evH p x (xs.drop n) = 0 := by rw [hn, List.drop_length]; rfl
  have bd := fun k => evH_bd p x hp1 (xs.drop k)
  generalize (fun k => evH (p : Int) x (xs.drop k)) = F at *
  have hn' : n ≤ 1000000 := by omega
  have HN := Lib.hid hn
  have ED := Lib.hid ed
  have E0 := Lib.hid e0
  have EN := Lib.hid en
  clear hn ed e0 en
  go_enter Tryz.func25, Tryz.ntmps25
  go_wp2_with fail
  go_loop [7, 8] (fun o i => ∃ k : Nat, k ≤ n ∧ i = .int .i64 ((k : Int) - 1) ∧ o = .int .i64 (evH p x (xs.drop k))) (fun _ i => (intOf i + 1).toNat)
  case atStart => exact ⟨n, by omega, rfl, by rw [EN.out]⟩
  case round =>
    obtain ⟨k, hk, rfl, rfl⟩ := hrel
    have bk := bd k
    by_cases hk0 : 0 < k
    · obtain ⟨b, off, rfl, hS, hcell⟩ := hc (by omega)
      obtain ⟨j, rfl⟩ : ∃ j, k = j + 1 := ⟨k - 1, by omega⟩
      have ck := hcell j (by omega)
      have xk := hx j (by have := HN.out; omega)
      have edj := ED.out j (by omega)
      obtain ⟨f, hf⟩ : ∃ f, evH p x (xs.drop (j + 1)) = f := ⟨_, rfl⟩
      rw [hf] at bk edj ⊢
      obtain ⟨y, hy⟩ : ∃ y, xs.getD j 0 = y := ⟨_, rfl⟩
      rw [hy] at ck xk edj
      have EJ := Lib.hid edj
      have p0 : 0 ≤ f * (x : Int) := Int.mul_nonneg bk.1 (by omega)
      have p1 : f * (x : Int) ≤ 1073741824 * 2147483648 := Int.mul_le_mul (by omega) (by omega) (by omega) (by omega)
      have q0 : ((j + 1 : Nat) : Int) - 1 = (j : Int) := by omega
      rw [q0]
      have q1 : (j : Int) < (n : Int) := by omega
      clear hcell edj hf hy q0 hc hx bd
      go_wp2_with fail
      go_round
      case rel => exact ⟨j, by omega, by go_num, by rw [EJ.out]⟩
      case measure => simp [intOf]
    · have hk00 : k = 0 := by omega
      subst hk00
      go_wp2_with fail
      go_ret
      exact ⟨by rw [E0.out]; rfl, rfl⟩

/-- A plan as a value; it is valid over a prime. -/
def planV (p need hold : Nat) : Value := .agg #[.int .i64 (p : Int), .int .i64 (need : Int), .int .i64 (hold : Int)]
set_option maxHeartbeats 400000 in
theorem r_PValid (p need hold : Nat) (w : World) (hp : Prm p) (h2 : p ≤ 1073741824) (n1 : 1 ≤ need) (n2 : need ≤ hold) (n3 : hold ≤ 16) (n4 : hold < p) :
    Calls Tryz.prog 22 #[planV p need hold] w fun e w' => e = .returned (.bool true) ∧ Below w.heap.size w w' := by
  unfold planV
  go_enter Tryz.func22, Tryz.ntmps22
  go_wp2_with fail
  refine (r_Valid p _ hp h2).mono ?_
  rintro e w' ⟨rfl, rfl⟩
  go_wp2_with fail
  go_ret
  refine ⟨ret_bool ?_, (Below.refl _ _).alloc (Nat.le_refl _) _⟩
  simp <;> omega
set_option maxHeartbeats 400000 in
theorem r_Random (p need hold count : Nat) (w : World) (n2 : 1 ≤ need) (n3 : need ≤ 16) (hc : count ≤ 1000000) :
    Calls Tryz.prog 24 #[planV p need hold, .int .i64 (count : Int)] w fun e w' => e = .returned (.int .i64 ((count * (need - 1) : Nat) : Int)) ∧ Below w.heap.size w w' := by
  unfold planV
  have e : (count : Int) * ((need : Int) - 1) = ((count * (need - 1) : Nat) : Int) := by rw [Int.natCast_mul, Int.natCast_sub n2]; rfl
  have hb : count * (need - 1) ≤ 1000000 * 16 := Nat.mul_le_mul hc (by omega)
  have b0 : (0 : Int) ≤ (count : Int) * ((need : Int) - 1) := by omega
  have b1 : (count : Int) * ((need : Int) - 1) ≤ 16000000 := by omega
  have E := Lib.hid e
  clear e hb
  go_enter Tryz.func24, Tryz.ntmps24
  go_wp2_with fail
  go_ret
  exact ⟨ret_int E.out, (Below.refl _ _).alloc (Nat.le_refl _) _⟩
end Go.Proofs.YtgeahbmaeaoeeaaGreatDoor
