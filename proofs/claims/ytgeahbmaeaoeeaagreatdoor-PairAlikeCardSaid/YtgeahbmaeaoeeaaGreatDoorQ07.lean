/- Contracts: bytes of words; kinds of terms; numbers between. Contracts: words that are looked for in a list; names of fields; the words with which terms begin. Contracts: names of fields; the words with which terms begin. -/
import Derived.Test.YtgeahbmaeaoeeaaGreatDoorQ05
import Derived.Test.YtgeahbmaeaoeeaaGreatDoorQ06
set_option linter.unusedVariables false
set_option linter.unusedSimpArgs false
namespace Go.Proofs.YtgeahbmaeaoeeaaGreatDoor
open Go.RowKit Num

def lowN (n : Nat) : Bool := decide (97 ≤ n) && decide (n ≤ 122)
def inWN (n : Nat) : Bool := lowN n || (decide (48 ≤ n) && decide (n ≤ 57)) || decide (n = 95)
theorem lowB_n (c : UInt8) : lowB c = lowN c.toNat := rfl
theorem inWB_n (c : UInt8) : inWB c = inWN c.toNat := by
  unfold inWB inWN
  rw [lowB_n]
  congr 1
  rw [Bool.eq_iff_iff]
  simp only [beq_iff_eq, decide_eq_true_eq]
  constructor
  · rintro rfl; rfl
  · intro h; exact UInt8.toNat_inj.1 h
set_option maxHeartbeats 1000000 in
theorem f_letter (n : Nat) (w : World) (hn : n < 256) :
    Calls Tryz.prog 139 #[.int .u8 (n : Int)] w fun e w' => e = .returned (.bool (lowN n)) ∧ w = w' := by
  by_cases h1 : 97 ≤ n
  · by_cases h2 : n ≤ 122
    · have e : lowN n = true := by simp [lowN, h1, h2]
      have d2 : decide ((n : Int) ≤ 122) = true := by simp; omega
      rw [e]
      go_enter Tryz.func139, Tryz.ntmps139
      go_wp2_with fail
      go_ret
      exact ⟨rfl, rfl⟩
    · have e : lowN n = false := by simp [lowN, h1, h2]
      have d2 : decide ((n : Int) ≤ 122) = false := by simp; omega
      rw [e]
      go_enter Tryz.func139, Tryz.ntmps139
      go_wp2_with fail
      go_ret
      exact ⟨rfl, rfl⟩
  · have e : lowN n = false := by simp [lowN, h1]
    rw [e]
    go_enter Tryz.func139, Tryz.ntmps139
    go_wp2_with fail
    go_ret
    exact ⟨rfl, rfl⟩
set_option maxHeartbeats 1000000 in
theorem f_inWord (n : Nat) (w : World) (hn : n < 256) :
    Calls Tryz.prog 142 #[.int .u8 (n : Int)] w fun e w' => e = .returned (.bool (inWN n)) ∧ w = w' := by
  cases hl : lowN n
  · by_cases h1 : 48 ≤ n
    · by_cases h2 : n ≤ 57
      · have e : inWN n = true := by simp [inWN, hl, h1, h2]
        rw [e]
        go_enter Tryz.func142, Tryz.ntmps142
        go_wp2_with (go_at_call 139; refine (f_letter _ _ hn).mono ?_; rintro e w' ⟨rfl, rfl⟩; rw [hl])
        go_ret
        exact ⟨rfl, rfl⟩
      · by_cases h3 : n = 95
        · subst h3
          go_enter Tryz.func142, Tryz.ntmps142
          go_wp2_with (go_at_call 139; refine (f_letter 95 _ hn).mono ?_; rintro e w' ⟨rfl, rfl⟩; rw [hl])
          go_ret
          exact ⟨rfl, rfl⟩
        · have e : inWN n = false := by simp [inWN, hl, h1, h2, h3]
          have q3 : ((n : Int) == 95) = false := by simp; omega
          have d2 : decide ((n : Int) ≤ 57) = false := by simp; omega
          rw [e]
          clear h3
          go_enter Tryz.func142, Tryz.ntmps142
          go_wp2_with (go_at_call 139; refine (f_letter _ _ hn).mono ?_; rintro e w' ⟨rfl, rfl⟩; rw [hl])
          go_ret
          exact ⟨rfl, rfl⟩
    · have e : inWN n = false := by simp [inWN, hl, h1]; omega
      have q3 : ((n : Int) == 95) = false := by simp; omega
      rw [e]
      go_enter Tryz.func142, Tryz.ntmps142
      go_wp2_with (go_at_call 139; refine (f_letter _ _ hn).mono ?_; rintro e w' ⟨rfl, rfl⟩; rw [hl])
      go_ret
      exact ⟨rfl, rfl⟩
  · have e : inWN n = true := by simp [inWN, hl]
    rw [e]
    go_enter Tryz.func142, Tryz.ntmps142
    go_wp2_with (go_at_call 139; refine (f_letter _ _ hn).mono ?_; rintro e w' ⟨rfl, rfl⟩; rw [hl])
    go_ret
    exact ⟨rfl, rfl⟩
set_option maxHeartbeats 1000000 in
theorem f_several (k : Int) (w : World) :
    Calls Tryz.prog 130 #[.int .i64 k] w fun e w' => e = .returned (.bool (severalB k)) ∧ w = w' := by
  by_cases h1 : k = 1
  · subst h1
    go_enter Tryz.func130, Tryz.ntmps130
    go_wp2_with fail
    go_ret
    exact ⟨rfl, rfl⟩
  · by_cases h2 : k = 2
    · subst h2
      go_enter Tryz.func130, Tryz.ntmps130
      go_wp2_with fail
      go_ret
      exact ⟨rfl, rfl⟩
    · have e : severalB k = false := by simp [severalB, h1, h2]
      have q1 : (k == 1) = false := by simpa using h1
      have q2 : (k == 2) = false := by simpa using h2
      rw [e]
      clear h1 h2
      go_enter Tryz.func130, Tryz.ntmps130
      go_wp2_with fail
      go_ret
      exact ⟨rfl, rfl⟩
set_option maxHeartbeats 1000000 in
theorem f_between (n t : Int) (w : World) :
    Calls Tryz.prog 135 #[.int .i64 n, .int .i64 t] w fun e w' => e = .returned (.bool (betwB n t)) ∧ w = w' := by
  by_cases h1 : 1 ≤ n
  · by_cases h2 : n ≤ t
    · have e : betwB n t = true := by simp [betwB, h1, h2]
      rw [e]
      go_enter Tryz.func135, Tryz.ntmps135
      go_wp2_with fail
      go_ret
      exact ⟨rfl, rfl⟩
    · have e : betwB n t = false := by simp [betwB, h1, h2]
      rw [e]
      go_enter Tryz.func135, Tryz.ntmps135
      go_wp2_with fail
      go_ret
      exact ⟨rfl, rfl⟩
  · have e : betwB n t = false := by simp [betwB, h1]
    rw [e]
    go_enter Tryz.func135, Tryz.ntmps135
    go_wp2_with fail
    go_ret
    exact ⟨rfl, rfl⟩
end Go.Proofs.YtgeahbmaeaoeeaaGreatDoor
namespace Go.Proofs.YtgeahbmaeaoeeaaGreatDoor
open Go.RowKit Num

theorem idxB_miss {w : List UInt8} : ∀ {L : List (List UInt8)}, (∀ x ∈ L, x ≠ w) → idxB w L = -1 := by
  intro L
  induction L with
  | nil => intro _; rfl
  | cons x r ih => intro h; unfold idxB; rw [if_neg (h x (by simp)), ih fun y hy => h y (by simp [hy]), if_pos rfl]
theorem idxB_hit {w : List UInt8} : ∀ {L : List (List UInt8)} (k : Nat), L[k]? = some w → (∀ j x, j < k → L[j]? = some x → x ≠ w) → idxB w L = k := by
  intro L
  induction L with
  | nil => intro k h; simp at h
  | cons x r ih =>
    intro k h hn
    cases k with
    | zero => simp at h; unfold idxB; rw [if_pos h]; rfl
    | succ k =>
      have := ih k (by simpa using h) (fun j y hj hy => hn (j + 1) y (by omega) (by simpa using hy))
      unfold idxB
      rw [if_neg (hn 0 x (by omega) rfl), this, if_neg (by omega)]; omega
theorem seq_true {s t : ByteArray} (h : s = t) : (s.toList == t.toList) = true := by rw [h]; simp
theorem seq_false {s t : ByteArray} (h : blOf s ≠ blOf t) : (s.toList == t.toList) = false := by rw [ByteArray.toList_eq, ByteArray.toList_eq]; simpa using h
/-- A list of texts in memory. -/
def StrsAt' (w : World) (v : Value) (L : List (List UInt8)) : Prop := ∃ g off n c, v = .slice (some ⟨g, off, none⟩) n c ∧ n = L.length ∧ g < w.heap.size ∧ ∀ k, k < n → w.cell? ⟨g, off + k, none⟩ = some (.string (bsOf (L.getD k [])))
set_option maxRecDepth 100000 in
set_option maxHeartbeats 1000000 in
theorem s_Index (v : Value) (L : List (List UInt8)) (s : ByteArray) (w : World) (hv : StrsAt' w v L) (hl : L.length ≤ 1000000) :
    Calls Tryz.prog 148 #[v, .string s] w fun e w' => e = .returned (.int .i64 (idxB (blOf s) L)) ∧ w = w' := by
  obtain ⟨g, off, n, c, rfl, hn, _, hc⟩ := hv
  have hn1 : n ≤ 1000000 := by omega
  have HC := Lib.hid hc
  have HN := Lib.hid hn
  clear hc hn hl
  go_enter Tryz.func148, Tryz.ntmps148
  go_wp2_with fail
  go_loop [5, 8] (fun _ i => ∃ k : Nat, k ≤ n ∧ i = .int .i64 k ∧ ∀ j, j < k → L.getD j [] ≠ blOf s) (fun _ i => n - (intOf i).toNat)
  case atStart => exact ⟨0, by omega, rfl, fun j hj => absurd hj (Nat.not_lt_zero _)⟩
  case round =>
    obtain ⟨k, hk, rfl, hne⟩ := hrel
    have HNE := Lib.hid hne
    clear hne
    by_cases hlt : k < n
    · have hcell := HC.out k hlt
      obtain ⟨x, hx⟩ : ∃ x, L.getD k [] = x := ⟨_, rfl⟩
      rw [hx] at hcell
      have HX := Lib.hid hx
      clear hx
      have hk? : L[k]? = some x := by
        have h1 := HX.out; have h2 := HN.out
        rw [List.getD_eq_getElem?_getD, List.getElem?_eq_getElem (by omega)] at h1
        rw [List.getElem?_eq_getElem (by omega)]
        exact congrArg some h1
      have HK := Lib.hid hk?
      clear hk?
      by_cases hs : x = blOf s
      · have e1 : (s.toList == (bsOf x).toList) = true := seq_true (by rw [hs, bsOf_blOf])
        have HS := Lib.hid hs
        clear hs
        go_wp2_with fail
        go_ret
        refine ⟨?_, rfl⟩
        rw [idxB_hit k (by rw [HK.out, HS.out]) (fun j y hj hy => by
          have := HNE.out j hj
          rwa [List.getD_eq_getElem?_getD, hy] at this)]
        rfl
      · have e1 : (s.toList == (bsOf x).toList) = false := seq_false (fun h => hs h.symm)
        have HS := Lib.hid hs
        clear hs
        go_wp2_with fail
        go_round
        case rel => exact ⟨k + 1, by omega, by go_num, fun j hj => by
          rcases Nat.lt_or_ge j k with h | h
          · exact HNE.out j h
          · rw [show j = k by omega, HX.out]; exact HS.out⟩
        case measure => simp [intOf]; omega
    · have hkn : k = n := by omega
      have hj0 : ¬ (k : Int) < (n : Int) := by omega
      have HKN := Lib.hid hkn
      clear hkn
      go_wp2_with fail
      go_ret
      refine ⟨?_, rfl⟩
      rw [idxB_miss (fun x hx => by
        obtain ⟨j, hj, rfl⟩ := List.getElem_of_mem hx
        have h1 := HNE.out j (by have := HN.out; have := HKN.out; omega)
        rwa [List.getD_eq_getElem?_getD, List.getElem?_eq_getElem hj] at h1)]
      rfl
theorem idxB_ge (w : List UInt8) : ∀ L : List (List UInt8), -1 ≤ idxB w L := by
  intro L
  induction L with
  | nil => simp [idxB]
  | cons x r ih => unfold idxB; split; omega; split <;> omega
theorem idxB_contains (w : List UInt8) : ∀ L : List (List UInt8), L.contains w = decide (0 ≤ idxB w L) := by
  intro L
  induction L with
  | nil => rfl
  | cons x r ih =>
    have hg := idxB_ge w r
    unfold idxB
    by_cases h : x = w
    · rw [if_pos h]; simp [h]
    · rw [if_neg h]
      have e : (x :: r).contains w = r.contains w := by
        rw [List.contains_cons]
        have : (w == x) = false := by rw [beq_eq_false_iff_ne]; exact fun e => h e.symm
        rw [this, Bool.false_or]
      rw [e, ih]
      split
      · rename_i h1; rw [h1]
      · rename_i h1
        rw [decide_eq_true (by omega), decide_eq_true (by omega)]
set_option maxHeartbeats 1000000 in
theorem s_Contains (v : Value) (L : List (List UInt8)) (s : ByteArray) (w : World) (hv : StrsAt' w v L) (hl : L.length ≤ 1000000) :
    Calls Tryz.prog 140 #[v, .string s] w fun e w' => e = .returned (.bool (L.contains (blOf s))) ∧ w = w' := by
  rw [idxB_contains]
  have HV := Lib.hid hv
  clear hv
  go_enter Tryz.func140, Tryz.ntmps140
  go_wp2_with (go_at_call 148; refine (s_Index _ L s _ HV.out hl).mono ?_; rintro e w' ⟨rfl, rfl⟩)
  go_ret
  exact ⟨rfl, rfl⟩
def StrsPost (L : List (List UInt8)) (w : World) (e : Ending) (w' : World) : Prop := ∃ v, e = .returned v ∧ StrsAt' w' v L ∧ Below w.heap.size w w'
set_option maxRecDepth 100000 in
set_option maxHeartbeats 1000000 in
theorem f_reserved (w : World) : Calls Tryz.prog 141 #[] w (StrsPost resB w) := by
  go_enter Tryz.func141, Tryz.ntmps141
  go_wp2_with fail
  go_ret
  refine ⟨_, rfl, ⟨_, _, _, _, rfl, rfl, by simp, fun k hk => ?_⟩, (Below.refl _ _).alloc (Nat.le_refl _) _⟩
  rw [Nat.zero_add, World.cell?_alloc_new]
  match k, hk with
  | 0, _ | 1, _ | 2, _ | 3, _ | 4, _ | 5, _ | 6, _ | 7, _ | 8, _ | 9, _ => rfl
set_option maxRecDepth 100000 in
set_option maxHeartbeats 1000000 in
theorem f_names (w : World) : Calls Tryz.prog 120 #[] w (StrsPost nmB w) := by
  go_enter Tryz.func120, Tryz.ntmps120
  go_wp2_with fail
  go_ret
  refine ⟨_, rfl, ⟨_, _, _, _, rfl, rfl, by simp, fun k hk => ?_⟩, (Below.refl _ _).alloc (Nat.le_refl _) _⟩
  rw [Nat.zero_add, World.cell?_alloc_new]
  match k, hk with
  | 0, _ | 1, _ | 2, _ | 3, _ | 4, _ | 5, _ | 6, _ | 7, _ | 8, _ => rfl
end Go.Proofs.YtgeahbmaeaoeeaaGreatDoor
namespace Go.Proofs.YtgeahbmaeaoeeaaGreatDoor
open Go.RowKit Num

def BoolBel (b : Bool) (w : World) (e : Ending) (w' : World) : Prop := e = .returned (.bool b) ∧ Below w.heap.size w w'
theorem StrsAt'.below {w w' : World} {v : Value} {L : List (List UInt8)} (h : StrsAt' w v L) (hb : Below w.heap.size w w') : StrsAt' w' v L := by
  obtain ⟨g, off, n, c, h1, h2, h3, h4⟩ := h
  exact ⟨g, off, n, c, h1, h2, Nat.lt_of_lt_of_le h3 hb.size, fun k hk => (hb.cell (p := ⟨g, off + k, none⟩) h3).trans (h4 k hk)⟩
theorem blOf_len (s : ByteArray) : (blOf s).length = s.size := Array.length_toList
theorem blOf_get (s : ByteArray) (k : Nat) (h : k < s.size) : (blOf s).getD k 0 = s[k] := by
  rw [List.getD_eq_getElem?_getD, List.getElem?_eq_getElem (by rw [blOf_len]; exact h)]; rfl
theorem headD_get (l : List UInt8) : l.headD 0 = l.getD 0 0 := by cases l <;> rfl
theorem all_of {l : List UInt8} {p : UInt8 → Bool} (h : ∀ j, j < l.length → p (l.getD j 0) = true) : l.all p = true := by
  rw [List.all_eq_true]
  intro x hx
  obtain ⟨j, hj, rfl⟩ := List.getElem_of_mem hx
  have := h j hj
  rwa [List.getD_eq_getElem?_getD, List.getElem?_eq_getElem hj] at this
theorem not_all_of {l : List UInt8} {p : UInt8 → Bool} {j : Nat} (hj : j < l.length) (h : p (l.getD j 0) = false) : l.all p = false := by
  rw [List.all_eq_false]
  refine ⟨l[j], List.getElem_mem hj, ?_⟩
  rw [List.getD_eq_getElem?_getD, List.getElem?_eq_getElem hj] at h
  simpa using h
set_option maxRecDepth 100000 in
set_option maxHeartbeats 1000000 in
theorem f_Name (s : ByteArray) (w : World) (hs : s.size ≤ 4294967296) :
    Calls Tryz.prog 136 #[.string s] w (BoolBel (nameB (blOf s)) w) := by
  by_cases h0 : s.size = 0
  · have e : nameB (blOf s) = false := by unfold nameB; rw [blOf_len]; simp [h0]
    obtain rfl := (show s = ⟨#[]⟩ from blOf_inj (List.eq_nil_of_length_eq_zero (by rw [blOf_len]; exact h0)))
    rw [e]
    clear e h0 hs
    go_enter Tryz.func136, Tryz.ntmps136
    go_wp2_with fail
    go_ret
    exact ⟨rfl, Below.refl _ _⟩
  · have z1 : (s.toList == []) = false := by
      rw [ByteArray.toList_eq]
      cases hl : s.data.toList with
      | nil => exact absurd (by rw [← blOf_len]; show s.data.toList.length = 0; rw [hl]; rfl) h0
      | cons a r => rfl
    have z2 : (!s.toList.isEmpty) = true := by
      rw [ByteArray.toList_eq]
      cases hl : s.data.toList with
      | nil => exact absurd (by rw [← blOf_len]; show s.data.toList.length = 0; rw [hl]; rfl) h0
      | cons a r => rfl
    have z3 : ¬ s.toList = [] := by simpa using z1
    have hpos : 0 < s.size := by omega
    by_cases h32 : s.size ≤ 32
    · have g0 := blOf_get s 0 hpos
      by_cases hl : lowN (s[0]).toNat = true
      · by_cases hr : resB.contains (blOf s) = true
        · have e : nameB (blOf s) = false := by unfold nameB; rw [hr]; simp
          have HE := Lib.hid e
          have HR := Lib.hid hr
          have HL := Lib.hid hl
          clear e hr g0 hl h0
          go_enter Tryz.func136, Tryz.ntmps136
          go_wp2_with (first
            | (go_at_call 139; refine (f_letter _ _ (UInt8.toNat_lt _)).mono ?_; rintro e w' ⟨rfl, rfl⟩; rw [HL.out])
            | (go_at_call 141; refine (f_reserved _).mono ?_; rintro e w1 ⟨v, rfl, hv, hb⟩; have HV := Lib.hid hv; clear hv)
            | (go_at_call 140; refine (s_Contains _ resB s _ (by first | exact HV.out | assumption) (by decide)).mono ?_; rintro e w' ⟨rfl, rfl⟩; rw [HR.out]))
          go_ret
          exact ⟨by rw [HE.out]; rfl, hb⟩
        · have hrf : resB.contains (blOf s) = false := by simpa using hr
          have ht : nameB (blOf s) = (blOf s).all inWB := by
            unfold nameB
            rw [hrf, headD_get, g0, lowB_n, hl, blOf_len]
            simp [h32]; omega
          have HT := Lib.hid ht
          have HR := Lib.hid hrf
          have HL := Lib.hid hl
          clear ht hr hrf g0 hl h0
          go_enter Tryz.func136, Tryz.ntmps136
          go_wp2_with (first
            | (go_at_call 139; refine (f_letter _ _ (UInt8.toNat_lt _)).mono ?_; rintro e w' ⟨rfl, rfl⟩; rw [HL.out])
            | (go_at_call 141; refine (f_reserved _).mono ?_; rintro e w1 ⟨v, rfl, hv, hb⟩; have HV := Lib.hid hv; clear hv)
            | (go_at_call 140; refine (s_Contains _ resB s _ (by first | exact HV.out | assumption) (by decide)).mono ?_; rintro e w' ⟨rfl, rfl⟩; rw [HR.out]))
          go_loop [3, 24] (fun _ i => ∃ k : Nat, k ≤ s.size ∧ i = .int .i64 k ∧ ∀ j, j < k → inWB ((blOf s).getD j 0) = true) (fun _ i => s.size - (intOf i).toNat)
          case atStart => exact ⟨0, by omega, rfl, fun j hj => absurd hj (Nat.not_lt_zero _)⟩
          case round =>
            obtain ⟨k, hk, rfl, hne⟩ := hrel
            have HNE := Lib.hid hne
            clear hne
            by_cases hlt : k < s.size
            · have gk := blOf_get s k hlt
              have GK := Lib.hid gk
              clear gk
              by_cases hi : inWN (s[k]).toNat = true
              · have HI := Lib.hid hi
                clear hi
                go_wp2_with (go_at_call 142; refine (f_inWord _ _ (UInt8.toNat_lt _)).mono ?_; rintro e w' ⟨rfl, rfl⟩; rw [HI.out])
                go_round
                case rel => exact ⟨k + 1, by omega, by go_num, fun j hj => by
                  rcases Nat.lt_or_ge j k with h | h
                  · exact HNE.out j h
                  · rw [show j = k by omega, GK.out, inWB_n]; exact HI.out⟩
                case measure => simp [intOf]; omega
              · have hi' : inWN (s[k]).toNat = false := by simpa using hi
                have HI := Lib.hid hi'
                clear hi hi'
                go_wp2_with (go_at_call 142; refine (f_inWord _ _ (UInt8.toNat_lt _)).mono ?_; rintro e w' ⟨rfl, rfl⟩; rw [HI.out])
                go_ret
                refine ⟨?_, hb⟩
                rw [HT.out, not_all_of (j := k) (by rw [blOf_len]; exact hlt) (by rw [GK.out, inWB_n]; exact HI.out)]
                rfl
            · have hkn : k = s.size := by omega
              have hj0 : ¬ (k : Int) < (s.size : Int) := by omega
              have HKN := Lib.hid hkn
              clear hkn
              go_wp2_with fail
              go_ret
              refine ⟨?_, hb⟩
              rw [HT.out, all_of (fun j hj => HNE.out j (by rw [blOf_len] at hj; rw [HKN.out]; exact hj))]
              rfl
      · have hl' : lowN (s[0]).toNat = false := by simpa using hl
        have e : nameB (blOf s) = false := by unfold nameB; rw [headD_get, g0, lowB_n, hl']; simp
        have HE := Lib.hid e
        have HL := Lib.hid hl'
        clear e g0 hl hl' h0
        go_enter Tryz.func136, Tryz.ntmps136
        go_wp2_with (go_at_call 139; refine (f_letter _ _ (UInt8.toNat_lt _)).mono ?_; rintro e w' ⟨rfl, rfl⟩; rw [HL.out])
        go_ret
        exact ⟨by rw [HE.out]; rfl, Below.refl _ _⟩
    · have e : nameB (blOf s) = false := by unfold nameB; rw [blOf_len]; simp [h32]
      have q32 : (32 : Int) < (s.size : Int) := by omega
      have HE := Lib.hid e
      clear e h0
      go_enter Tryz.func136, Tryz.ntmps136
      go_wp2_with fail
      go_ret
      exact ⟨by rw [HE.out]; rfl, Below.refl _ _⟩
def IntBel (n : Int) (w : World) (e : Ending) (w' : World) : Prop := e = .returned (.int .i64 n) ∧ Below w.heap.size w w'
end Go.Proofs.YtgeahbmaeaoeeaaGreatDoor
