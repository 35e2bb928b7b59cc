/- Contracts: the reference's text of a condition, of terms with parts too. Contracts: the reference's Print. Contracts: the first words of chapter 16's statements: awake. Contracts: awake. -/
import Derived.Test.YthfmmememdlekaaGreatDoorP35
import Derived.Test.YthfmmememdlekaaGreatDoorP37
import Derived.Test.YthfmmememdlekaaGreatDoorP30
import Derived.Test.YthfmmememdlekaaGreatDoorP07
set_option linter.unusedVariables false
set_option linter.unusedSimpArgs false
namespace Go.Proofs.YthfmmememdlekaaGreatDoor
open Go.RowKit Num

theorem blk_second (w : World) (o1 : Obj) (T : TypeId) (ys : Array Value) : Blk ((w.alloc o1).alloc (.cells ys T)) (w.heap.size + 1) T ys := by
  have := Blk.new (w.alloc o1) T ys
  rwa [World.size_alloc] at this
set_option maxRecDepth 100000 in
set_option maxHeartbeats 4000000 in
theorem r_text_args (d : Nat) (L : List Trm) (b off n c : Nat) (w : World) (hb : b < w.heap.size) (hn : n ≤ 1000000) (hl : LibOk w)
    (ih : ∀ (k : Nat) (T : Tree) (m : Nat) (W : World), Below w.heap.size w W → growF L d k = some (T, m) → (txT d T).length ≤ 100000 → Calls Tryz.prog 35 #[.agg #[.slice (some ⟨b, off, none⟩) n c], .int .i64 (k : Int)] W (StrBel (txT d T) W))
    (k : Nat) (hkn : k < n) (t : Trm) (hT : TermAt w (· < w.heap.size) b (off + k * 6) t) (hk : t.kind = 1 ∨ t.kind = 2) (hn0 : t.num = 0) (hpos : 2 ≤ t.args.length) (xs : List Tree) (m : Nat) (hg : growA (growF L d) t.args (k + 1) = some (xs, m))
    (hlen : (txT (d + 1) (.node t xs)).length ≤ 100000) :
    Calls Tryz.prog 35 #[.agg #[.slice (some ⟨b, off, none⟩) n c], .int .i64 (k : Int)] w (StrBel (txT (d + 1) (.node t xs)) w) := by
  obtain ⟨i0, hi, hz0, hz1, hz2⟩ := info_parts infoStr
  have q2 : (0 : Int) ≤ (k : Int) := by omega
  have q3 : (k : Int) < (n : Int) := by omega
  rw [txT_node, if_pos hk] at hlen ⊢
  obtain ⟨LS, hLS⟩ : ∃ LS, xs.map (txT d) = LS := ⟨_, rfl⟩
  have hxl := growA_len hg
  have hLl : LS.length = t.args.length := by rw [← hLS, List.length_map, hxl]
  rw [hLS] at hlen ⊢
  obtain ⟨jl, hjl⟩ : ∃ jl, joinS [44, 32] LS = jl := ⟨_, rfl⟩
  have hjl1 : jl.length ≤ 100000 := by rw [← hjl]; simp only [List.length_append, List.length_cons, List.length_nil] at hlen; omega
  have hkid : ∀ j, j < t.args.length → ∃ (q : Nat) (T : Tree) (mm : Nat), t.args.getD j 0 = (q : Int) ∧ growF L d q = some (T, mm) ∧ LS[j]? = some (txT d T) ∧ (txT d T).length ≤ 100000 := by
    intro j hj
    obtain ⟨q, x, mm, e1, e2, e3⟩ := growA_at hg j (t.args.getD j 0) (by rw [List.getD_eq_getElem?_getD, List.getElem?_eq_getElem hj]; rfl)
    have hLk : LS[j]? = some (txT d x) := by rw [← hLS, List.getElem?_map, e3]; rfl
    refine ⟨q, x, mm, e1, e2, hLk, ?_⟩
    have := joinS_le [44, 32] LS _ (List.mem_of_getElem? hLk)
    rw [hjl] at this; omega
  rw [hjl]
  have hn1 : LS.length ≤ 100001 := by
    have := joinS_ge [44, 32] (by decide) LS
    rw [hjl] at this
    omega
  have s2 : (bsOf jl).size ≤ 100000 := by rw [bsOf_data]; exact hjl1
  obtain ⟨tk, tn, ty, tf, tt, ta⟩ := t
  simp only at hk hn0 hpos hLl hkid hn1
  subst hn0
  obtain ⟨c0, c1, c2, c3, c4, u5, c5, Aa, na, ca, rfl, hna, hca, hcell⟩ := hT
  simp only at hna hcell c0 c1 c2 c3 c4 c5
  obtain ⟨ab, ao, rfl, hab, hac⟩ := hcell (by omega)
  have hpos2 : 2 ≤ na := by omega
  have hn3 : na ≤ 100001 := by omega
  have hb2 : ∀ o, Below w.heap.size w ((w.alloc (.cells #[.slice (some ⟨b, off, none⟩) n c] 25)).alloc o) := fun o => ((Below.refl _ _).alloc (Nat.le_refl _) _).alloc (by simp) _
  have HB2 := Lib.hid hb2
  have HL := Lib.hid hl
  have HK0 := Lib.hid (fun j (h : j < na) => hkid j (by omega))
  have HAC := Lib.hid hac
  have HJ := Lib.hid hjl
  have HLL := Lib.hid (show LS.length = na by omega)
  have HIH := Lib.hid ih
  clear hkid hjl hLl hLS hlen hcell hna ih hac hg hxl hb2 hl hpos
  rcases hk with rfl | rfl
  all_goals
    go_enter Tryz.func35, Tryz.ntmps35
    go_wp2_with fail
    refine (i_Itoa 0 _ (HL.out.later (HB2.out _)).tab (by omega) (by omega)).mono ?_
    rintro e w4 ⟨rfl, hb4⟩
    obtain ⟨hcc, hff⟩ := bcellx hb4
    go_wp2_with fail
    have hs4 := hb4.size
    have k20 : w4.cell? ⟨w.heap.size, 0, none⟩ = some (.slice (some ⟨b, off, none⟩) n c) := (hb4.cell (p := ⟨w.heap.size, 0, none⟩) (by simp; omega)).trans (((Blk.new w 25 #[.slice (some ⟨b, off, none⟩) n c]).alloc _).cell 0)
    have k30 := (hb4.cell (p := ⟨w.heap.size + 1, 0, none⟩) (by simp)).trans ((blk_second w _ 29 _).cell 0)
    simp only [List.getElem?_toArray, List.getElem?_cons_zero] at k30
    have hbw : Below w.heap.size w w4 := (HB2.out _).trans (hb4.mono (by simp; omega))
    have hs4' : w.heap.size + 2 ≤ w4.heap.size := by simpa using hs4
    have HBW := Lib.hid hbw
    clear hcc hff hb4 hs4 hbw
    go_loopw [7, 9, 56] (fun v7 _ v56 wr => ∃ k : Nat, k ≤ na ∧ v56 = .int .i64 (k : Int) ∧ wr.ownsRow (w.heap.size + 2) 9 1 v7 k ((LS.take k).map fun l => .string (bsOf l)) ∧ Below (w.heap.size + 2) w4 wr) (fun _ _ v56 _ => na - (intOf v56).toNat)
    case atStart => exact ⟨0, by omega, rfl, World.ownsRow_nil _ _ _ _, Below.refl _ _⟩
    case round =>
      obtain ⟨j, hj, rfl, hown, hbl⟩ := hrel
      have hs3 := hbl.size
      have hbw : Below w.heap.size w wr := HBW.out.trans (hbl.mono (by omega))
      have r20 := (hbl.cell (p := ⟨w.heap.size, 0, none⟩) (by show w.heap.size < _; omega)).trans k20
      have r30 := (hbl.cell (p := ⟨w.heap.size + 1, 0, none⟩) (by show w.heap.size + 1 < _; omega)).trans k30
      by_cases hlt : j < na
      · obtain ⟨q, T, mm, hq, hgT, hLk, hTl⟩ := HK0.out j hlt
        have cp := (hbw.cell (p := ⟨ab, ao + j, none⟩) hab).trans (HAC.out j hlt)
        rw [hq] at cp
        have z1 : (0 : Int) ≤ (j : Int) := by omega
        have z2 : (j : Int) < (na : Int) := by omega
        have HBL := Lib.hid hbl
        have HBX := Lib.hid hbw
        have HLK := Lib.hid hLk
        have HGT := Lib.hid hgT
        clear hLk hbl hbw hq hgT
        go_wp2_with fail
        refine (HIH.out q T mm wr HBX.out HGT.out hTl).mono ?_
        rintro e w1 ⟨rfl, hb2⟩
        have hown1 := hown.kept (only_of_below hb2 none) (by rename_i v4 _ _; cases Value.ownBlock _ <;> simp)
        have HB3 := Lib.hid (HBL.out.trans (hb2.mono (Nat.le_trans hs4' hs3)))
        have hs5 := hb2.size
        clear hb2 hown
        generalize txT d T = tx at *
        go_wp2_with (at_builtin; refine wpList_append_own _ rfl _ _ 56 rfl (w.heap.size + 2) 9 i0 (.string ⟨#[]⟩) 1 16 Tryz.underlying56 hi hz0 hz1 hz2 rfl (by decide) _ _ _ rfl (hown1.alloc _) ⟨w1.heap.size, 0, none⟩ 1 1 [.string (bsOf tx)] rfl rfl (cell_one_new _ _ _) (by intro u hu; simp at hu; subst hu; rfl) (by unfold maxLen; omega) (by omega) (by simp; omega) ?_)
        intro v' w2 hown2 hgrow _
        have hlt2 := hown1.lt
        have hb3 : Below (w.heap.size + 2) w4 w2 := (HB3.out.alloc (by omega) _).grown hgrow (by simp; omega) (fun g hg => (hlt2 g hg).1)
        have hown3 : w2.ownsRow (w.heap.size + 2) 9 1 v' (j + 1) ((LS.take (j + 1)).map fun l => .string (bsOf l)) := by
          rw [List.take_add_one, HLK.out]
          simpa using hown2
        have HO := Lib.hid hown3
        have HB4 := Lib.hid hb3
        clear hown2 hgrow hlt2 hb3 hown3 hown1
        go_wp2_with fail
        go_roundw
        case measure => simp [intOf]; omega
        case rel => exact ⟨j + 1, by omega, by go_num, HO.out, HB4.out⟩
      · have hkn : j = na := by omega
        subst hkn
        have htk : LS.take j = LS := List.take_of_length_le (by have := HLL.out; omega)
        rw [htk] at hown
        obtain ⟨q, cap, hv, _, hq⟩ := hown.form (by omega)
        subst hv
        have hcap : j ≤ cap := by
          rcases hown.2 with ⟨h1, _⟩ | ⟨g3, cap3, cur, h1, _, _, h2, _⟩
          · cases h1
          · injection h1 with _ _ h3; omega
        have hcells : ∀ i x, LS[i]? = some x → wr.cell? ⟨q, 0 + i, none⟩ = some (.string (bsOf x)) := by
          intro i x hj
          have := hown.cells (g := q) rfl i (.string (bsOf x)) (by rw [List.getElem?_map, hj]; rfl)
          have ha : (⟨q, 0, none⟩ : Addr).add i = ⟨q, i, none⟩ := by unfold Addr.add; split <;> simp_all
          rw [ha] at this
          rw [Nat.zero_add]; exact this
        have HC2 := Lib.hid hcells
        have HBX := Lib.hid hbw
        have hs6 := hbw.size
        have hj0 : ¬ (j : Int) < (j : Int) := by omega
        clear hcells htk hown hbl hbw
        go_wp2_with (go_at_call 70; refine (i_Join q 0 j cap LS _ HLL.out.symm hcap hq HC2.out (by rw [HJ.out]; omega) (by have := HLL.out; omega)).mono ?_; rw [HJ.out]; rintro e w2 ⟨rfl, hb2⟩)
        go_ret
        refine ⟨?_, HBX.out.trans (hb2.mono hs6)⟩
        exact congrArg (fun x : ByteArray => Ending.returned (.string x)) (by show bsOf _ ++ bsOf _ ++ bsOf [41] = _; rw [bsOf_app, bsOf_app]; rfl)
end Go.Proofs.YthfmmememdlekaaGreatDoor
namespace Go.Proofs.YthfmmememdlekaaGreatDoor
open Go.RowKit Num

theorem growF_split {L : List Trm} {d k : Nat} {T : Tree} {m : Nat} (h : growF L (d + 1) k = some (T, m)) : ∃ t xs, L[k]? = some t ∧ T = .node t xs ∧ rtermB t = true ∧ growA (growF L d) t.args (k + 1) = some (xs, m) := by
  unfold growF at h
  split at h
  · cases h
  · rename_i t ht
    split at h
    · rename_i hc
      split at h
      · cases h
      · rename_i xs n hx
        injection h with h; injection h with h1 h2
        exact ⟨t, xs, ht, h1.symm, by rw [rterm_eq]; exact hc, by rw [hx, h2]⟩
    · cases h
theorem rterm_kind {t : Trm} (h : rtermB t = true) : ((t.kind = 1 ∨ t.kind = 2) ∧ t.num = 0 ∧ 2 ≤ t.args.length) ∨ ((t.kind = 3 ∨ t.kind = 4) ∧ 0 ≤ t.num ∧ t.num ≤ 100) ∨ (t.kind = 5 ∧ 0 ≤ t.num ∧ t.num ≤ 100 ∧ 0 ≤ t.yrs ∧ t.yrs ≤ 100) ∨ ((t.kind = 6 ∨ t.kind = 8) ∧ t.num = 0) ∨
    (t.kind = 7 ∧ 0 ≤ t.num ∧ t.num ≤ 100 ∧ t.field.size ≤ 1000 ∧ t.text.size ≤ 1000) := by
  unfold rtermB at h
  simp only at h
  by_cases c1 : t.kind = 1 ∨ t.kind = 2
  · rw [if_pos c1] at h
    simp only [Bool.and_eq_true, decide_eq_true_eq] at h
    exact .inl ⟨c1, h.1.2, h.1.1⟩
  · rw [if_neg c1] at h
    by_cases c3 : t.kind = 3 ∨ t.kind = 4
    · rw [if_pos c3] at h
      simp only [Bool.and_eq_true, decide_eq_true_eq, betwB] at h
      exact .inr (.inl ⟨c3, by omega, by omega⟩)
    · rw [if_neg c3] at h
      by_cases c5 : t.kind = 5
      · rw [if_pos c5] at h
        simp only [Bool.and_eq_true, decide_eq_true_eq, betwB] at h
        exact .inr (.inr (.inl ⟨c5, by omega, by omega, by omega, by omega⟩))
      · rw [if_neg c5] at h
        by_cases c6 : t.kind = 6 ∨ t.kind = 8
        · rw [if_pos c6] at h
          simp only [Bool.and_eq_true, decide_eq_true_eq] at h
          exact .inr (.inr (.inr (.inl ⟨c6, by omega⟩)))
        · rw [if_neg c6] at h
          by_cases c7 : t.kind = 7
          · rw [if_pos c7] at h
            simp only [Bool.and_eq_true, decide_eq_true_eq, betwB] at h
            have hn := name_len h.1.1.2
            rw [blOf_len] at hn
            exact .inr (.inr (.inr (.inr ⟨c7, by omega, by omega, by omega, by omega⟩)))
          · rw [if_neg c7] at h; cases h
theorem r_text (L : List Trm) : ∀ (d k : Nat) (T : Tree) (m : Nat) (b off n c B : Nat) (w : World), TermsAt w (· < B) (.slice (some ⟨b, off, none⟩) n c) L → B ≤ w.heap.size → n ≤ 1000000 → LibOk w → growF L d k = some (T, m) → (txT d T).length ≤ 100000 →
    Calls Tryz.prog 35 #[.agg #[.slice (some ⟨b, off, none⟩) n c], .int .i64 (k : Int)] w (StrBel (txT d T) w) := by
  intro d
  induction d with
  | zero => intro k T m b off n c B w _ _ _ _ hg; cases hg
  | succ d ih =>
    intro k T m b off n c B w hv hB hn hl hg hlen
    obtain ⟨t, xs, ht, rfl, hr, hga⟩ := growF_split hg
    have hkL : k < L.length := (List.getElem?_eq_some_iff.1 ht).1
    have hv0 := hv
    obtain ⟨A, n', c', he, hnL, hnc, h4⟩ := hv
    injection he with e1 e2 e3
    subst e2 e3
    obtain ⟨b', off', hA, hbB, hc⟩ := h4 (by omega)
    rw [← e1] at hA
    injection hA with hA; injection hA with hA1 hA2
    subst hA1 hA2
    have hb : b < w.heap.size := by omega
    have hT := hc k (by omega)
    have e : trmAt L k = t := by
      have := trmAt_get hkL
      rw [ht] at this
      injection this with this
      exact this.symm
    rw [e] at hT
    have hT' : TermAt w (· < w.heap.size) b (off + k * 6) t := hT.mono fun q hq => by omega
    have hkn : k < n := by omega
    rcases rterm_kind hr with ⟨hk, h0, h2⟩ | hh
    · exact r_text_args d L b off n c w hb hn hl (fun k' T' m' W hW hg' hl' => ih k' T' m' b off n c B W (hv0.keep fun q hq => hW.block q (by omega)) (by have := hW.size; omega) hn (hl.later hW) hg' hl') k hkn t hT' hk h0 h2 xs m hga hlen
    · obtain ⟨tk, tn, ty, tf, tt, ta⟩ := t
      obtain ⟨c0, c1, c2, c3, c4, u5, c5, Aa, na, ca, rfl, -, -, -⟩ := hT'
      simp only at hh c0 c1 c2 c3 c4 c5
      rw [txT_node]
      simp only
      rcases hh with ⟨hk, h0, h1⟩ | ⟨hk, h0, h1, h2, h3⟩ | ⟨hk, h0⟩ | ⟨hk, h0, h1, h2, h3⟩
      · rw [if_neg (by omega), if_pos hk]
        exact r_text_num b off n c k tk tn ty tf tt Aa na ca w hk hb hkn hn hl h0 h1 c0 c1 c2 c3 c4 c5
      · rw [if_neg (by omega), if_neg (by omega), if_pos hk]
        exact r_text_yrs b off n c k tk tn ty tf tt Aa na ca w hk hb hkn hn hl h0 h1 h2 h3 (by rw [bsOf_data]; exact itoa_small ty h2 h3) c0 c1 c2 c3 c4 c5
      · rw [if_neg (by omega), if_neg (by omega), if_neg (by omega), if_neg (by omega)]
        exact r_text_word b off n c k tk tn ty tf tt Aa na ca w hk hb hkn hn hl (by omega) (by omega) c0 c1 c2 c3 c4 c5
      · rw [if_neg (by omega), if_neg (by omega), if_neg (by omega), if_pos hk]
        exact r_text_says b off n c k tk tn ty tf tt Aa na ca w hk hb hkn hn hl h0 h1 h2 h3 c0 c1 c2 c3 c4 c5
set_option maxRecDepth 100000 in
set_option maxHeartbeats 4000000 in
/-- The reference's Print answers as the program's. -/
theorem r_Print (v : Value) (L : List Trm) (B : Nat) (w : World) (hv : TermsAt w (· < B) v L) (hB : B ≤ w.heap.size) (hL : L.length ≤ 1000000) (hok : ∀ t ∈ L, TrmOk t) (hl : LibOk w) (hsp : SpcOk w) :
    Calls Tryz.prog 12 #[.agg #[v]] w (PrintPost w (rootF L)) := by
  obtain ⟨A, n, c, rfl, hn, hnc, h4⟩ := id hv
  have hb1 : Below w.heap.size w (w.alloc (.cells #[.slice A n c] 25)) := (Below.refl _ _).alloc (Nat.le_refl _) _
  have hc1 : (w.alloc (.cells #[.slice A n c] 25)).cell? ⟨w.heap.size, 0, none⟩ = some (.slice A n c) := (Blk.new w 25 #[.slice A n c]).cell 0
  have hcd := r_Condition (.slice A n c) L B (w.alloc (.cells #[.slice A n c] 25)) (hv.keep fun g hg => hb1.block g (by omega)) (by simp; omega) hL hok (hl.later hb1) (spc_below hsp (by have := hl.size; show (0 : Nat) < _; omega) hb1)
  have HB1 := Lib.hid hb1
  have HC1 := Lib.hid hc1
  have HCD := Lib.hid hcd
  have HV := Lib.hid hv
  have HL := Lib.hid hl
  have HN := Lib.hid hn
  have hn6 : n ≤ 1000000 := by omega
  clear hb1 hc1 hcd hv hok hl hsp hn hL
  cases hr : rootF L with
  | none =>
    have HR := Lib.hid hr
    clear hr h4
    go_enter Tryz.func12, Tryz.ntmps12
    go_wp2_with (go_at_call 34; refine HCD.out.mono ?_; rintro e w1 ⟨rfl, hb2⟩; rw [HR.out]; simp only [Option.isSome_none])
    go_ret2
    exact ⟨rfl, HB1.out.trans (hb2.mono (by simp))⟩
  | some T =>
    obtain ⟨hg, h24⟩ := root_some hr
    have htx := root_txt hr
    have hpos : 0 < n := by
      have := (flat_grow 6 hg).2
      have := HN.out
      omega
    obtain ⟨b, off, rfl, hbB, -⟩ := h4 hpos
    have hbw : b < w.heap.size := by omega
    have HR := Lib.hid hr
    have HG := Lib.hid hg
    clear hr h4 hg hpos
    go_enter Tryz.func12, Tryz.ntmps12
    go_wp2_with (go_at_call 34; refine HCD.out.mono ?_; rintro e w1 ⟨rfl, hb2⟩; rw [HR.out]; simp only [Option.isSome_some]; have k20 := (hb2.cell (p := ⟨w.heap.size, 0, none⟩) (by simp)).trans HC1.out; have HBX := Lib.hid (HB1.out.trans (hb2.mono (by simp))); clear hb2)
    have hs := HBX.out.size
    refine (r_text L 6 0 T L.length b off n c B w1 (HV.out.keep fun q hq => HBX.out.block q (by omega)) (by omega) hn6 (HL.out.later HBX.out) HG.out (by omega)).mono ?_
    rintro e w2 ⟨rfl, hb3⟩
    go_wp2_with fail
    go_ret2
    exact ⟨rfl, HBX.out.trans (hb3.mono hs)⟩
end Go.Proofs.YthfmmememdlekaaGreatDoor
namespace Go.Proofs.YthfmmememdlekaaGreatDoor
open Go.RowKit Num

def awkS : ByteArray := ⟨#[97, 108, 108, 40, 114, 101, 112, 111, 114, 116, 101, 114, 115, 32, 51, 44, 32, 97, 110, 121, 40, 100, 101, 112, 97, 114, 116, 109, 101, 110, 116, 115, 32, 50, 44, 32, 121, 101, 97, 114, 115, 32, 53, 32, 111, 102, 32, 50, 41, 41]⟩
theorem awk_plain : ((parseC (blOf awkS)).1.length, (parseC (blOf awkS)).2) = (5, ((0 : Int), (0 : Int))) := by kernel_rfl
theorem awk_what : nameB (blOf ⟨#[119, 104, 97, 116]⟩) = true := by kernel_rfl
theorem awk_all : nameB (blOf ⟨#[97, 108, 108]⟩) = false := by kernel_rfl
theorem awk_size : awkS.size ≤ 100000000 := by show 50 ≤ 100000000; omega
def AwkParse (w : World) (e : Ending) (w' : World) : Prop := ∃ A c, e = .returned (.tuple #[.agg #[.slice A 5 c], .int .i64 0, .int .i64 0]) ∧ Below w.heap.size w w'
theorem f_Parse_awk (w : World) (hl : LibOk w) : Calls Tryz.prog 30 #[.string awkS] w (AwkParse w) := by
  have h := f_Parse awkS w awk_size hl
  have hp := awk_plain
  generalize parseC (blOf awkS) = x at h hp
  obtain ⟨L, p, n⟩ := x
  simp only [Prod.mk.injEq] at hp
  obtain ⟨h5, rfl, rfl⟩ := hp
  refine h.mono ?_
  rintro e w1 ⟨v, rfl, ⟨A, n, c, rfl, hn, -⟩, hb1⟩
  simp only at hn
  rw [h5] at hn
  subst hn
  exact ⟨A, c, rfl, hb1⟩
end Go.Proofs.YthfmmememdlekaaGreatDoor
namespace Go.Proofs.YthfmmememdlekaaGreatDoor
open Go.RowKit Num

def AwkEnd (w : World) (e : Ending) (w' : World) : Prop := e = .returned (.bool true) ∧ Below w.heap.size w w'
theorem f_Name_what (w : World) : Calls Tryz.prog 28 #[.string ⟨#[119, 104, 97, 116]⟩] w (BoolBel true w) := by
  have h := f_Name ⟨#[119, 104, 97, 116]⟩ w (by show 4 ≤ _; omega)
  rwa [awk_what] at h
theorem f_Name_all (w : World) : Calls Tryz.prog 28 #[.string ⟨#[97, 108, 108]⟩] w (BoolBel false w) := by
  have h := f_Name ⟨#[97, 108, 108]⟩ w (by show 3 ≤ _; omega)
  rwa [awk_all] at h
set_option maxRecDepth 100000 in
set_option maxHeartbeats 400000 in
theorem f_awake (w : World) (hl : LibOk w) : Calls Tryz.prog 7 #[] w (AwkEnd w) := by
  have HL := Lib.hid hl
  clear hl
  go_enter Tryz.func7, Tryz.ntmps7
  go_wp2_with fail
  refine (f_Parse_awk _ HL.out).mono ?_
  rintro e w1 ⟨A, c, rfl, hb1⟩
  have HB1 := Lib.hid hb1
  have hs1 := hb1.size
  clear hb1
  have c1d : (w1.alloc (.cells #[.slice A 5 c] 25)).drew.cell? ⟨w1.heap.size, 0, none⟩ = some (.slice A 5 c) := World.cell?_alloc_new w1 _ _ _
  have KS := Lib.hid (fun (W : World) (hW : Below (w1.heap.size + 1) (w1.alloc (.cells #[.slice A 5 c] 25)) W) => (⟨(hW.cell (p := ⟨w1.heap.size, 0, none⟩) (by simp)).trans (World.cell?_alloc_new w1 _ _ _), Lib.hid hW⟩ : W.cell? ⟨w1.heap.size, 0, none⟩ = some (.slice A 5 c) ∧ Hid (Below (w1.heap.size + 1) (w1.alloc (.cells #[.slice A 5 c] 25)) W)))
  go_wp2_with fail
  refine (f_Name_what _).mono ?_
  rintro e w2 ⟨rfl, hb2⟩
  have hs2 := hb2.size
  have HB2 := Lib.hid (HB1.out.trans (((Below.refl w1.heap.size w1).alloc (Nat.le_refl _) (.cells #[.slice A 5 c] 25)).trans (hb2.mono (by simp))|>.mono hs1))
  clear hb2
  go_wp2_with fail
  refine (f_Name_all _).mono ?_
  rintro e w3 ⟨rfl, hb3⟩
  have HB3 := Lib.hid (HB2.out.trans (hb3.mono (by simp at hs2; omega)))
  clear hb3
  go_wp2_with fail
  go_ret
  exact ⟨rfl, HB3.out⟩
end Go.Proofs.YthfmmememdlekaaGreatDoor
