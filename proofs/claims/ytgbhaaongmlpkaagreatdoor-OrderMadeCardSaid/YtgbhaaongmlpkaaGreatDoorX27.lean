/- Contracts: the reference's Print. -/
import Derived.Test.YtgbhaaongmlpkaaGreatDoorX26
set_option linter.unusedVariables false
set_option linter.unusedSimpArgs false
namespace Go.Proofs.YtgbhaaongmlpkaaGreatDoor
open Go.RowKit Num

theorem growF_split {L : List Trm} {d k : Nat} {T : Tree} {m : Nat} (h : growF L (d + 1) k = some (T, m)) : ∃ t xs, L[k]? = some t ∧ T = .node t xs ∧ rtermB t = true ∧ growA (growF L d) t.args (k + 1) = some (xs, m) := by
  unfold growF at h
  split at h
  · cases h
  · rename_i t ht
    split at h
    · rename_i hc
      split at h
      · cases h
      · rename_i xs n hx
        injection h with h; injection h with h1 h2
        exact ⟨t, xs, ht, h1.symm, by rw [rterm_eq]; exact hc, by rw [hx, h2]⟩
    · cases h
theorem rterm_kind {t : Trm} (h : rtermB t = true) : ((t.kind = 1 ∨ t.kind = 2) ∧ t.num = 0 ∧ 2 ≤ t.args.length) ∨ ((t.kind = 3 ∨ t.kind = 4) ∧ 0 ≤ t.num ∧ t.num ≤ 100) ∨ (t.kind = 5 ∧ 0 ≤ t.num ∧ t.num ≤ 100 ∧ 0 ≤ t.yrs ∧ t.yrs ≤ 100) ∨ ((t.kind = 6 ∨ t.kind = 8) ∧ t.num = 0) ∨
    (t.kind = 7 ∧ 0 ≤ t.num ∧ t.num ≤ 100 ∧ t.field.size ≤ 1000 ∧ t.text.size ≤ 1000) := by
  unfold rtermB at h
  simp only at h
  by_cases c1 : t.kind = 1 ∨ t.kind = 2
  · rw [if_pos c1] at h
    simp only [Bool.and_eq_true, decide_eq_true_eq] at h
    exact .inl ⟨c1, h.1.2, h.1.1⟩
  · rw [if_neg c1] at h
    by_cases c3 : t.kind = 3 ∨ t.kind = 4
    · rw [if_pos c3] at h
      simp only [Bool.and_eq_true, decide_eq_true_eq, betwB] at h
      exact .inr (.inl ⟨c3, by omega, by omega⟩)
    · rw [if_neg c3] at h
      by_cases c5 : t.kind = 5
      · rw [if_pos c5] at h
        simp only [Bool.and_eq_true, decide_eq_true_eq, betwB] at h
        exact .inr (.inr (.inl ⟨c5, by omega, by omega, by omega, by omega⟩))
      · rw [if_neg c5] at h
        by_cases c6 : t.kind = 6 ∨ t.kind = 8
        · rw [if_pos c6] at h
          simp only [Bool.and_eq_true, decide_eq_true_eq] at h
          exact .inr (.inr (.inr (.inl ⟨c6, by omega⟩)))
        · rw [if_neg c6] at h
          by_cases c7 : t.kind = 7
          · rw [if_pos c7] at h
            simp only [Bool.and_eq_true, decide_eq_true_eq, betwB] at h
            have hn := name_len h.1.1.2
            rw [blOf_len] at hn
            exact .inr (.inr (.inr (.inr ⟨c7, by omega, by omega, by omega, by omega⟩)))
          · rw [if_neg c7] at h; cases h
theorem r_text (L : List Trm) : ∀ (d k : Nat) (T : Tree) (m : Nat) (b off n c B : Nat) (w : World), TermsAt w (· < B) (.slice (some ⟨b, off, none⟩) n c) L → B ≤ w.heap.size → n ≤ 1000000 → LibOk w → growF L d k = some (T, m) → (txT d T).length ≤ 100000 →
    Calls Tryz.prog 88 #[.agg #[.slice (some ⟨b, off, none⟩) n c], .int .i64 (k : Int)] w (StrBel (txT d T) w) := by
  intro d
  induction d with
  | zero => intro k T m b off n c B w _ _ _ _ hg; cases hg
  | succ d ih =>
    intro k T m b off n c B w hv hB hn hl hg hlen
    obtain ⟨t, xs, ht, rfl, hr, hga⟩ := growF_split hg
    have hkL : k < L.length := (List.getElem?_eq_some_iff.1 ht).1
    have hv0 := hv
    obtain ⟨A, n', c', he, hnL, hnc, h4⟩ := hv
    injection he with e1 e2 e3
    subst e2 e3
    obtain ⟨b', off', hA, hbB, hc⟩ := h4 (by omega)
    rw [← e1] at hA
    injection hA with hA; injection hA with hA1 hA2
    subst hA1 hA2
    have hb : b < w.heap.size := by omega
    have hT := hc k (by omega)
    have e : trmAt L k = t := by
      have := trmAt_get hkL
      rw [ht] at this
      injection this with this
      exact this.symm
    rw [e] at hT
    have hT' : TermAt w (· < w.heap.size) b (off + k * 6) t := hT.mono fun q hq => by omega
    have hkn : k < n := by omega
    rcases rterm_kind hr with ⟨hk, h0, h2⟩ | hh
    · exact r_text_args d L b off n c w hb hn hl (fun k' T' m' W hW hg' hl' => ih k' T' m' b off n c B W (hv0.keep fun q hq => hW.block q (by omega)) (by have := hW.size; omega) hn (hl.later hW) hg' hl') k hkn t hT' hk h0 h2 xs m hga hlen
    · obtain ⟨tk, tn, ty, tf, tt, ta⟩ := t
      obtain ⟨c0, c1, c2, c3, c4, u5, c5, Aa, na, ca, rfl, -, -, -⟩ := hT'
      simp only at hh c0 c1 c2 c3 c4 c5
      rw [txT_node]
      simp only
      rcases hh with ⟨hk, h0, h1⟩ | ⟨hk, h0, h1, h2, h3⟩ | ⟨hk, h0⟩ | ⟨hk, h0, h1, h2, h3⟩
      · rw [if_neg (by omega), if_pos hk]
        exact r_text_num b off n c k tk tn ty tf tt Aa na ca w hk hb hkn hn hl h0 h1 c0 c1 c2 c3 c4 c5
      · rw [if_neg (by omega), if_neg (by omega), if_pos hk]
        exact r_text_yrs b off n c k tk tn ty tf tt Aa na ca w hk hb hkn hn hl h0 h1 h2 h3 (by rw [bsOf_data]; exact itoa_small ty h2 h3) c0 c1 c2 c3 c4 c5
      · rw [if_neg (by omega), if_neg (by omega), if_neg (by omega), if_neg (by omega)]
        exact r_text_word b off n c k tk tn ty tf tt Aa na ca w hk hb hkn hn hl (by omega) (by omega) c0 c1 c2 c3 c4 c5
      · rw [if_neg (by omega), if_neg (by omega), if_neg (by omega), if_pos hk]
        exact r_text_says b off n c k tk tn ty tf tt Aa na ca w hk hb hkn hn hl h0 h1 h2 h3 c0 c1 c2 c3 c4 c5
set_option maxRecDepth 100000 in
set_option maxHeartbeats 4000000 in
/-- The reference's Print answers as the program's. -/
theorem r_Print (v : Value) (L : List Trm) (B : Nat) (w : World) (hv : TermsAt w (· < B) v L) (hB : B ≤ w.heap.size) (hL : L.length ≤ 1000000) (hok : ∀ t ∈ L, TrmOk t) (hl : LibOk w) (hsp : SpcOk w) :
    Calls Tryz.prog 71 #[.agg #[v]] w (PrintPost w (rootF L)) := by
  obtain ⟨A, n, c, rfl, hn, hnc, h4⟩ := id hv
  have hb1 : Below w.heap.size w (w.alloc (.cells #[.slice A n c] 33)) := (Below.refl _ _).alloc (Nat.le_refl _) _
  have hc1 : (w.alloc (.cells #[.slice A n c] 33)).cell? ⟨w.heap.size, 0, none⟩ = some (.slice A n c) := (Blk.new w 33 #[.slice A n c]).cell 0
  have hcd := r_Condition (.slice A n c) L B (w.alloc (.cells #[.slice A n c] 33)) (hv.keep fun g hg => hb1.block g (by omega)) (by simp; omega) hL hok (hl.later hb1) (spc_below hsp (by have := hl.size; show 2 < _; omega) hb1)
  have HB1 := Lib.hid hb1
  have HC1 := Lib.hid hc1
  have HCD := Lib.hid hcd
  have HV := Lib.hid hv
  have HL := Lib.hid hl
  have HN := Lib.hid hn
  have hn6 : n ≤ 1000000 := by omega
  clear hb1 hc1 hcd hv hok hl hsp hn hL
  cases hr : rootF L with
  | none =>
    have HR := Lib.hid hr
    clear hr h4
    go_enter Tryz.func71, Tryz.ntmps71
    go_wp2_with (go_at_call 68; refine HCD.out.mono ?_; rintro e w1 ⟨rfl, hb2⟩; rw [HR.out]; simp only [Option.isSome_none])
    go_ret2
    exact ⟨rfl, HB1.out.trans (hb2.mono (by simp))⟩
  | some T =>
    obtain ⟨hg, h24⟩ := root_some hr
    have htx := root_txt hr
    have hpos : 0 < n := by
      have := (flat_grow 6 hg).2
      have := HN.out
      omega
    obtain ⟨b, off, rfl, hbB, -⟩ := h4 hpos
    have hbw : b < w.heap.size := by omega
    have HR := Lib.hid hr
    have HG := Lib.hid hg
    clear hr h4 hg hpos
    go_enter Tryz.func71, Tryz.ntmps71
    go_wp2_with (go_at_call 68; refine HCD.out.mono ?_; rintro e w1 ⟨rfl, hb2⟩; rw [HR.out]; simp only [Option.isSome_some]; have k20 := (hb2.cell (p := ⟨w.heap.size, 0, none⟩) (by simp)).trans HC1.out; have HBX := Lib.hid (HB1.out.trans (hb2.mono (by simp))); clear hb2)
    have hs := HBX.out.size
    refine (r_text L 6 0 T L.length b off n c B w1 (HV.out.keep fun q hq => HBX.out.block q (by omega)) (by omega) hn6 (HL.out.later HBX.out) HG.out (by omega)).mono ?_
    rintro e w2 ⟨rfl, hb3⟩
    go_wp2_with fail
    go_ret2
    exact ⟨rfl, HBX.out.trans (hb3.mono hs)⟩
end Go.Proofs.YtgbhaaongmlpkaaGreatDoor
