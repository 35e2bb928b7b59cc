/- Contracts: the text of a condition. -/
import Derived.Test.YthfmmememdlekaaDoorFmText3
set_option linter.unusedVariables false
set_option linter.unusedSimpArgs false
namespace Go.Proofs.YthfmmememdlekaaDoor
open Go.RowKit Num

/-! ### How long a text is -/
theorem joinS_tail (sep : List UInt8) (L : List (List UInt8)) : (joinS sep L).length ≤ (Lib.joinTail sep L).length := by
  cases L with
  | nil => simp [joinS]
  | cons x r => simp [joinS, Lib.joinTail]
theorem name_len {l : List UInt8} (h : nameB l = true) : l.length ≤ 32 := by
  unfold nameB at h
  simp only [Bool.and_eq_true, decide_eq_true_eq] at h
  exact h.1.1.1.2
theorem leaf_len (t : Trm) (hb : bareB t = true) (hk : ¬ (t.kind = 1 ∨ t.kind = 2)) (d : Nat) (xs : List Tree) : (txT (d + 1) (.node t xs)).length ≤ 400 := by
  have hk8 := bare_kind hb
  have hn := nm_len t.kind hk8.1 hk8.2
  rw [txT_node, if_neg hk]
  unfold bareB at hb
  by_cases c3 : t.kind = 3 ∨ t.kind = 4
  · rw [if_neg (by omega), if_pos c3] at hb
    simp only [Bool.and_eq_true, decide_eq_true_eq, betwB] at hb
    have := itoa_small t.num (by omega) (by omega)
    rw [if_pos c3]; simp only [List.length_append, List.length_cons, List.length_nil]; omega
  · rw [if_neg c3]
    by_cases c5 : t.kind = 5
    · rw [if_neg (by omega), if_neg c3, if_pos c5] at hb
      simp only [Bool.and_eq_true, decide_eq_true_eq, betwB] at hb
      have h1 := itoa_small t.num (by omega) (by omega)
      have h2 := itoa_small t.yrs (by omega) (by omega)
      rw [c5] at hn
      rw [if_pos c5]; simp only [List.length_append, List.length_cons, List.length_nil, ofB]; omega
    · rw [if_neg c5]
      by_cases c7 : t.kind = 7
      · rw [if_neg (by omega), if_neg c3, if_neg c5, if_pos c7] at hb
        simp only [Bool.and_eq_true, decide_eq_true_eq, betwB] at hb
        have h1 := itoa_small t.num (by omega) (by omega)
        have h2 := name_len hb.1.1.1.2
        have h3 : (blOf t.text).length ≤ 256 := by rw [blOf_len]; omega
        rw [c7] at hn
        rw [if_pos c7]; simp only [List.length_append, List.length_cons, List.length_nil, ofB]; omega
      · rw [if_neg c7]; omega
theorem growA_txt {l : List Trm} {d : Nat} (hd : ∀ {at_ T n}, growF l d at_ = some (T, n) → (txT d T).length + 2 ≤ 402 * (n - at_) ∧ at_ ≤ n) :
    ∀ {ks nx xs n}, growA (growF l d) ks nx = some (xs, n) → (Lib.joinTail [44, 32] (xs.map (txT d))).length ≤ 402 * (n - nx) ∧ nx ≤ n := by
  intro ks
  induction ks with
  | nil => intro nx xs n h; simp [growA] at h; obtain ⟨rfl, rfl⟩ := h; simp [Lib.joinTail]
  | cons k ks ih =>
    intro nx xs n h
    unfold growA at h
    split at h
    · split at h
      · cases h
      · rename_i x af hx
        split at h
        · cases h
        · rename_i xs' n' ha
          injection h with h; injection h with h1 h2; subst h1; subst h2
          obtain ⟨e1, e2⟩ := hd hx
          obtain ⟨f1, f2⟩ := ih ha
          simp only [Lib.joinTail, List.map_cons, List.flatten_cons, List.length_append, List.length_cons, List.length_nil] at f1 ⊢
          omega
    · cases h
theorem grow_txt {l : List Trm} : ∀ d {at_ T n}, growF l d at_ = some (T, n) → (txT d T).length + 2 ≤ 402 * (n - at_) ∧ at_ ≤ n := by
  intro d
  induction d with
  | zero => intro at_ T n h; simp [growF] at h
  | succ d ih =>
    intro at_ T n h
    unfold growF at h
    split at h
    · cases h
    · rename_i t ht
      split at h
      · rename_i hb
        rw [Bool.and_eq_true] at hb
        split at h
        · cases h
        · rename_i xs n' ha
          injection h with h; injection h with h1 h2; subst h1; subst h2
          obtain ⟨f1, f2⟩ := growA_txt ih ha
          refine ⟨?_, by omega⟩
          by_cases hk : t.kind = 1 ∨ t.kind = 2
          · have hk8 := bare_kind hb.1
            have hn := nm_len t.kind hk8.1 hk8.2
            have hj := joinS_tail [44, 32] (xs.map (txT d))
            rw [txT_node, if_pos hk]
            simp only [List.length_append, List.length_cons, List.length_nil]
            omega
          · have := leaf_len t hb.1 hk d xs
            omega
      · cases h
theorem root_some {L : List Trm} {T : Tree} (h : rootF L = some T) : growF L 6 0 = some (T, L.length) ∧ L.length ≤ 24 := by
  unfold rootF at h
  split at h
  · rename_i h24
    split at h
    · cases h
    · rename_i t n hg
      split at h
      · rename_i hn
        injection h with h
        subst h
        exact ⟨by rw [hg, hn], h24⟩
      · cases h
  · cases h
theorem root_txt {L : List Trm} {T : Tree} (h : rootF L = some T) : (txT 6 T).length ≤ 10000 := by
  obtain ⟨h1, h2⟩ := root_some h
  have := (grow_txt 6 h1).1
  omega
theorem size_E {s : ByteArray} (h : s.size ≤ 4294967296) : s.size ≤ 4294967296 := h
/-! ### The text of a tree -/
theorem f_text : ∀ (d : Nat) (T : Tree) (v : Value) (S : Nat → Prop) (w : World), TreeAt w S d v T → (∀ b, S b → b < w.heap.size) → GoodT d T → LibOk w → (txT d T).length ≤ 100000 →
    Calls Tryd.prog 35 #[v] w (StrBel (txT d T) w) := by
  intro d
  induction d with
  | zero => intro T v S w ht; exact ht.elim
  | succ d ih =>
    intro T v S w ht hS hg hl hlen
    obtain ⟨t, xs⟩ := T
    have ht0 := ht
    have hg0 := hg
    obtain ⟨b, rfl, hSb, ⟨c0, c1, c2, c3, c4, _⟩, _⟩ := ht
    have hb := hS b hSb
    obtain ⟨hbare, _, _, _⟩ := hg
    have hk8 := bare_kind hbare
    by_cases hk : t.kind = 1 ∨ t.kind = 2
    · exact f_text_args d S w hS hl (fun T' v' W' h1 h2 h3 h4 => ih T' v' S W' h1 (fun q hq => Nat.lt_of_lt_of_le (hS q hq) h2.size) h3 (hl.later h2) h4) b t xs ht0 hg0 hk hlen
    · rw [txT_node, if_neg hk]
      have hbr := hbare
      unfold bareB at hbr
      by_cases c3' : t.kind = 3 ∨ t.kind = 4
      · rw [if_neg (by omega), if_pos c3'] at hbr
        simp only [Bool.and_eq_true, decide_eq_true_eq, betwB] at hbr
        rw [if_pos c3']
        exact f_text_num b t.kind t.num w c3' (by omega) (by omega) hl hb c0 c1
      · rw [if_neg c3']
        by_cases c5 : t.kind = 5
        · rw [if_neg (by omega), if_neg c3', if_pos c5] at hbr
          simp only [Bool.and_eq_true, decide_eq_true_eq, betwB] at hbr
          rw [if_pos c5]
          exact f_text_yrs b t.num t.yrs w (by omega) (by omega) (by omega) (by omega) hl hb (by rw [← c5]; exact c0) c1 c2
        · rw [if_neg c5]
          by_cases c7 : t.kind = 7
          · rw [if_neg (by omega), if_neg c3', if_neg c5, if_pos c7] at hbr
            simp only [Bool.and_eq_true, decide_eq_true_eq, betwB] at hbr
            rw [if_pos c7]
            have h2 := name_len hbr.1.1.1.2
            rw [blOf_len] at h2
            exact f_text_says b t.num t.field t.text w (by omega) (by omega) (by omega) (by omega) hl hb (by rw [← c7]; exact c0) c1 c3 c4
          · rw [if_neg c7]
            exact f_text_word b t.kind w (by omega) hb c0
def PrintPost (w : World) (o : Option Tree) (e : Ending) (w' : World) : Prop :=
  e = .returned (match o with | none => .tuple #[.string ⟨#[]⟩, .int .i64 14] | some T => .tuple #[.string (bsOf (txT 6 T)), .int .i64 0]) ∧ Below w.heap.size w w'
set_option maxRecDepth 100000 in
set_option maxHeartbeats 4000000 in
theorem f_Print (v : Value) (L : List Trm) (B : Nat) (w : World) (hv : TermsAt w (· < B) v L) (hB : B ≤ w.heap.size) (hL : L.length ≤ 1000000) (hok : ∀ t ∈ L, TrmOk t) (hl : LibOk w) :
    Calls Tryd.prog 17 #[.agg #[v]] w (PrintPost w (rootF L)) := by
  obtain ⟨A, n, c, rfl, -⟩ := id hv
  have hv2 : TermsAt (w.alloc (.cells #[.slice A n c] 24)) (· < B) (.slice A n c) L := hv.keep fun b hb => Below.heap_alloc w _ b (by omega)
  have hb0 : Below w.heap.size w (w.alloc (.cells #[.slice A n c] 24)) := (Below.refl _ _).alloc (Nat.le_refl _) _
  have HV := Lib.hid hv2
  have HB0 := Lib.hid hb0
  have HL := Lib.hid hL
  have HOK := Lib.hid hok
  have HLI := Lib.hid (hl.later hb0)
  clear hv hv2 hL hok hb0 hl
  cases hr : rootF L with
  | none =>
    have HR := Lib.hid hr
    clear hr
    go_enter Tryd.func17, Tryd.ntmps17
    go_wp2_with fail
    refine (f_root _ L B _ HV.out (by simp; omega) HL.out HOK.out).mono ?_
    rw [HR.out]
    rintro e w1 ⟨p, rfl, hb⟩
    go_wp2_with fail
    go_ret2
    exact ⟨rfl, HB0.out.trans (hb.mono (by simp))⟩
  | some T =>
    have hg := grow_good 6 (root_some hr).1
    have hlen := root_txt hr
    have HR := Lib.hid hr
    have HG := Lib.hid hg
    clear hr hg
    go_enter Tryd.func17, Tryd.ntmps17
    go_wp2_with fail
    refine (f_root _ L B _ HV.out (by simp; omega) HL.out HOK.out).mono ?_
    rw [HR.out]
    rintro e w1 ⟨p, rfl, ht, hb⟩
    obtain ⟨pb, rfl, -⟩ := ht.ptr
    have hs1 := hb.size
    have HT := Lib.hid ht
    clear ht
    go_wp2_with fail
    refine (f_text 6 T _ _ _ HT.out (fun b hS => ?_) HG.out (HLI.out.later hb) (by omega)).mono ?_
    · rcases hS with h | ⟨_, h⟩
      · simp at hs1; omega
      · exact h
    rintro e w2 ⟨rfl, hb2⟩
    go_wp2_with fail
    go_ret2
    exact ⟨rfl, (HB0.out.trans (hb.mono (by simp))).trans (hb2.mono (by simp at hs1; omega))⟩
end Go.Proofs.YthfmmememdlekaaDoor
