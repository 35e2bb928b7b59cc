/- Contracts: words that are looked for in a list; names of fields; the words with which terms begin. -/
import Derived.Test.YthfmmememdlekaaDoorFmBar
set_option linter.unusedVariables false
set_option linter.unusedSimpArgs false
namespace Go.Proofs.YthfmmememdlekaaDoor
open Go.RowKit Num

theorem idxB_miss {w : List UInt8} : ∀ {L : List (List UInt8)}, (∀ x ∈ L, x ≠ w) → idxB w L = -1 := by
  intro L
  induction L with
  | nil => intro _; rfl
  | cons x r ih => intro h; unfold idxB; rw [if_neg (h x (by simp)), ih fun y hy => h y (by simp [hy]), if_pos rfl]
theorem idxB_hit {w : List UInt8} : ∀ {L : List (List UInt8)} (k : Nat), L[k]? = some w → (∀ j x, j < k → L[j]? = some x → x ≠ w) → idxB w L = k := by
  intro L
  induction L with
  | nil => intro k h; simp at h
  | cons x r ih =>
    intro k h hn
    cases k with
    | zero => simp at h; unfold idxB; rw [if_pos h]; rfl
    | succ k =>
      have := ih k (by simpa using h) (fun j y hj hy => hn (j + 1) y (by omega) (by simpa using hy))
      unfold idxB
      rw [if_neg (hn 0 x (by omega) rfl), this, if_neg (by omega)]; omega
theorem seq_true {s t : ByteArray} (h : s = t) : (s.toList == t.toList) = true := by rw [h]; simp
theorem seq_false {s t : ByteArray} (h : blOf s ≠ blOf t) : (s.toList == t.toList) = false := by rw [ByteArray.toList_eq, ByteArray.toList_eq]; simpa using h
/-- A list of texts in memory. -/
def StrsAt' (w : World) (v : Value) (L : List (List UInt8)) : Prop := ∃ g off n c, v = .slice (some ⟨g, off, none⟩) n c ∧ n = L.length ∧ g < w.heap.size ∧ ∀ k, k < n → w.cell? ⟨g, off + k, none⟩ = some (.string (bsOf (L.getD k [])))
set_option maxRecDepth 100000 in
set_option maxHeartbeats 1000000 in
theorem s_Index (v : Value) (L : List (List UInt8)) (s : ByteArray) (w : World) (hv : StrsAt' w v L) (hl : L.length ≤ 1000000) :
    Calls Tryd.prog 40 #[v, .string s] w fun e w' => e = .returned (.int .i64 (idxB (blOf s) L)) ∧ w = w' := by
  obtain ⟨g, off, n, c, rfl, hn, _, hc⟩ := hv
  have hn1 : n ≤ 1000000 := by omega
  have HC := Lib.hid hc
  have HN := Lib.hid hn
  clear hc hn hl
  go_enter Tryd.func40, Tryd.ntmps40
  go_wp2_with fail
  go_loop [5, 8] (fun _ i => ∃ k : Nat, k ≤ n ∧ i = .int .i64 k ∧ ∀ j, j < k → L.getD j [] ≠ blOf s) (fun _ i => n - (intOf i).toNat)
  case atStart => exact ⟨0, by omega, rfl, fun j hj => absurd hj (Nat.not_lt_zero _)⟩
  case round =>
    obtain ⟨k, hk, rfl, hne⟩ := hrel
    have HNE := Lib.hid hne
    clear hne
    by_cases hlt : k < n
    · have hcell := HC.out k hlt
      obtain ⟨x, hx⟩ : ∃ x, L.getD k [] = x := ⟨_, rfl⟩
      rw [hx] at hcell
      have HX := Lib.hid hx
      clear hx
      have hk? : L[k]? = some x := by
        have h1 := HX.out; have h2 := HN.out
        rw [List.getD_eq_getElem?_getD, List.getElem?_eq_getElem (by omega)] at h1
        rw [List.getElem?_eq_getElem (by omega)]
        exact congrArg some h1
      have HK := Lib.hid hk?
      clear hk?
      by_cases hs : x = blOf s
      · have e1 : (s.toList == (bsOf x).toList) = true := seq_true (by rw [hs, bsOf_blOf])
        have HS := Lib.hid hs
        clear hs
        go_wp2_with fail
        go_ret
        refine ⟨?_, rfl⟩
        rw [idxB_hit k (by rw [HK.out, HS.out]) (fun j y hj hy => by
          have := HNE.out j hj
          rwa [List.getD_eq_getElem?_getD, hy] at this)]
        rfl
      · have e1 : (s.toList == (bsOf x).toList) = false := seq_false (fun h => hs h.symm)
        have HS := Lib.hid hs
        clear hs
        go_wp2_with fail
        go_round
        case rel => exact ⟨k + 1, by omega, by go_num, fun j hj => by
          rcases Nat.lt_or_ge j k with h | h
          · exact HNE.out j h
          · rw [show j = k by omega, HX.out]; exact HS.out⟩
        case measure => simp [intOf]; omega
    · have hkn : k = n := by omega
      have hj0 : ¬ (k : Int) < (n : Int) := by omega
      have HKN := Lib.hid hkn
      clear hkn
      go_wp2_with fail
      go_ret
      refine ⟨?_, rfl⟩
      rw [idxB_miss (fun x hx => by
        obtain ⟨j, hj, rfl⟩ := List.getElem_of_mem hx
        have h1 := HNE.out j (by have := HN.out; have := HKN.out; omega)
        rwa [List.getD_eq_getElem?_getD, List.getElem?_eq_getElem hj] at h1)]
      rfl
theorem idxB_ge (w : List UInt8) : ∀ L : List (List UInt8), -1 ≤ idxB w L := by
  intro L
  induction L with
  | nil => simp [idxB]
  | cons x r ih => unfold idxB; split; omega; split <;> omega
theorem idxB_contains (w : List UInt8) : ∀ L : List (List UInt8), L.contains w = decide (0 ≤ idxB w L) := by
  intro L
  induction L with
  | nil => rfl
  | cons x r ih =>
    have hg := idxB_ge w r
    unfold idxB
    by_cases h : x = w
    · rw [if_pos h]; simp [h]
    · rw [if_neg h]
      have e : (x :: r).contains w = r.contains w := by
        rw [List.contains_cons]
        have : (w == x) = false := by rw [beq_eq_false_iff_ne]; exact fun e => h e.symm
        rw [this, Bool.false_or]
      rw [e, ih]
      split
      · rename_i h1; rw [h1]
      · rename_i h1
        rw [decide_eq_true (by omega), decide_eq_true (by omega)]
set_option maxHeartbeats 1000000 in
theorem s_Contains (v : Value) (L : List (List UInt8)) (s : ByteArray) (w : World) (hv : StrsAt' w v L) (hl : L.length ≤ 1000000) :
    Calls Tryd.prog 23 #[v, .string s] w fun e w' => e = .returned (.bool (L.contains (blOf s))) ∧ w = w' := by
  rw [idxB_contains]
  have HV := Lib.hid hv
  clear hv
  go_enter Tryd.func23, Tryd.ntmps23
  go_wp2_with (go_at_call 40; refine (s_Index _ L s _ HV.out hl).mono ?_; rintro e w' ⟨rfl, rfl⟩)
  go_ret
  exact ⟨rfl, rfl⟩
def StrsPost (L : List (List UInt8)) (w : World) (e : Ending) (w' : World) : Prop := ∃ v, e = .returned v ∧ StrsAt' w' v L ∧ Below w.heap.size w w'
set_option maxRecDepth 100000 in
set_option maxHeartbeats 1000000 in
theorem f_reserved (w : World) : Calls Tryd.prog 24 #[] w (StrsPost resB w) := by
  go_enter Tryd.func24, Tryd.ntmps24
  go_wp2_with fail
  go_ret
  refine ⟨_, rfl, ⟨_, _, _, _, rfl, rfl, by simp, fun k hk => ?_⟩, (Below.refl _ _).alloc (Nat.le_refl _) _⟩
  rw [Nat.zero_add, World.cell?_alloc_new]
  match k, hk with
  | 0, _ | 1, _ | 2, _ | 3, _ | 4, _ | 5, _ | 6, _ | 7, _ | 8, _ | 9, _ => rfl
set_option maxRecDepth 100000 in
set_option maxHeartbeats 1000000 in
theorem f_names (w : World) : Calls Tryd.prog 54 #[] w (StrsPost nmB w) := by
  go_enter Tryd.func54, Tryd.ntmps54
  go_wp2_with fail
  go_ret
  refine ⟨_, rfl, ⟨_, _, _, _, rfl, rfl, by simp, fun k hk => ?_⟩, (Below.refl _ _).alloc (Nat.le_refl _) _⟩
  rw [Nat.zero_add, World.cell?_alloc_new]
  match k, hk with
  | 0, _ | 1, _ | 2, _ | 3, _ | 4, _ | 5, _ | 6, _ | 7, _ | 8, _ => rfl
end Go.Proofs.YthfmmememdlekaaDoor
