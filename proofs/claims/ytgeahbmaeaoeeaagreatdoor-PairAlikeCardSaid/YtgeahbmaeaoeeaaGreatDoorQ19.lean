/- Contracts: the text of a tree, of terms with parts too. Contracts: the text of a condition. -/
import Derived.Test.YtgeahbmaeaoeeaaGreatDoorQ18
set_option linter.unusedVariables false
set_option linter.unusedSimpArgs false
namespace Go.Proofs.YtgeahbmaeaoeeaaGreatDoor
open Go.RowKit Num

theorem joinS_le (sep : List UInt8) : ∀ (L : List (List UInt8)) (a : List UInt8), a ∈ L → a.length ≤ (joinS sep L).length := by
  intro L a ha
  cases L with
  | nil => cases ha
  | cons x r =>
    unfold joinS
    rw [List.length_append]
    rcases List.mem_cons.1 ha with rfl | h
    · omega
    · have : ∀ r : List (List UInt8), a ∈ r → a.length ≤ (Lib.joinTail sep r).length := by
        intro r
        induction r with
        | nil => intro h; cases h
        | cons y s ih =>
          intro h
          simp only [Lib.joinTail, List.map_cons, List.flatten_cons, List.length_append] at ih ⊢
          rcases List.mem_cons.1 h with rfl | h
          · omega
          · have := ih h; omega
      have := this r h; omega
theorem joinS_ge (sep : List UInt8) (hs : 1 ≤ sep.length) (L : List (List UInt8)) : L.length ≤ (joinS sep L).length + 1 := by
  cases L with
  | nil => simp
  | cons x r =>
    unfold joinS
    have : ∀ r : List (List UInt8), r.length ≤ (Lib.joinTail sep r).length := by
      intro r
      induction r with
      | nil => simp
      | cons y s ih =>
        simp only [Lib.joinTail, List.map_cons, List.flatten_cons, List.length_append, List.length_cons] at ih ⊢
        omega
    have := this r
    rw [List.length_append, List.length_cons]; omega
theorem i_Join (g off n c : Nat) (L : List (List UInt8)) (w : World) (hn : n = L.length) (hnc : n ≤ c) (hg : g < w.heap.size) (hc : ∀ k x, L[k]? = some x → w.cell? ⟨g, off + k, none⟩ = some (.string (bsOf x))) (hl : (joinS [44, 32] L).length ≤ 1000000) (hL : L.length ≤ 1000000) :
    Calls Tryz.prog 121 #[.slice (some ⟨g, off, none⟩) n c, .string ⟨#[44, 32]⟩] w (StrBel (joinS [44, 32] L) w) := by
  have hmap : (L.map bsOf).map (·.data.toList) = L := by
    rw [List.map_map]
    have e : ((fun x : ByteArray => x.data.toList) ∘ bsOf) = id := rfl
    rw [e, List.map_id]
  have hlen : (L.map bsOf).length = n := by rw [List.length_map, hn]
  have h := Tryz.strings_Join g off c (L.map bsOf) ⟨#[44, 32]⟩ w (fun j x hj => by
    rw [List.getElem?_map] at hj
    obtain ⟨y, hy, rfl⟩ := Option.map_eq_some_iff.1 hj
    exact hc j y hy) hg (by rw [hlen]; omega) (by rw [hlen]; exact hnc) (by rw [hmap]; show (Lib.join L [44, 32]).length ≤ _; rw [joinS_join]; omega)
  rw [hlen] at h
  refine h.mono ?_
  rintro e w' ⟨rfl, hb⟩
  refine ⟨?_, hb⟩
  rw [hmap]
  show Ending.returned (.string ⟨(Lib.join L [44, 32]).toArray⟩) = _
  rw [joinS_join]; rfl
theorem infoStr : (Tryz.prog.info? 9).map (fun i => (i.zero, i.size, i.bytes)) = some (some (.string ⟨#[]⟩), 1, 16) := by kernel_rfl
set_option maxRecDepth 100000 in
set_option maxHeartbeats 4000000 in
theorem f_text_args (d : Nat) (S : Nat → Prop) (w : World) (hS : ∀ b, S b → b < w.heap.size) (hl : LibOk w)
    (ih : ∀ (T : Tree) (v : Value) (W : World), TreeAt W S d v T → Below w.heap.size w W → GoodT d T → (txT d T).length ≤ 100000 → Calls Tryz.prog 100 #[v] W (StrBel (txT d T) W))
    (b : Nat) (t : Trm) (xs : List Tree) (ht : TreeAt w S (d + 1) (.pointer (some ⟨b, 0, none⟩)) (.node t xs)) (hg : GoodT (d + 1) (.node t xs)) (hk : t.kind = 1 ∨ t.kind = 2) (hlen : (txT (d + 1) (.node t xs)).length ≤ 100000) :
    Calls Tryz.prog 100 #[.pointer (some ⟨b, 0, none⟩)] w (StrBel (txT (d + 1) (.node t xs)) w) := by
  obtain ⟨i0, hi, hz0, hz1, hz2⟩ := info_parts infoStr
  obtain ⟨b', hbb, hSb, hT, A, n, c, c6, hn, hnc, hkids⟩ := ht
  injection hbb with hbb; injection hbb with hbb; injection hbb with hbb
  subst hbb
  have hb := hS b hSb
  have c0 : w.cell? ⟨b, 0, none⟩ = some (.int .i64 t.kind) := hT.1
  obtain ⟨hbare, hsev, hx1, hgood⟩ := hg
  have hpos : 0 < n := by
    have : severalB t.kind = true := by unfold severalB; simp [hk]
    rw [this] at hsev
    rw [hn]; exact of_decide_eq_true hsev.symm
  obtain ⟨g, off, rfl, hSg, hcell⟩ := hkids hpos
  have hgb := hS g hSg
  rw [txT_node, if_pos hk] at hlen ⊢
  obtain ⟨L, hL⟩ : ∃ L, xs.map (txT d) = L := ⟨_, rfl⟩
  have hLl : L.length = n := by rw [← hL, List.length_map, hn]
  rw [hL] at hlen ⊢
  obtain ⟨jl, hjl⟩ : ∃ jl, joinS [44, 32] L = jl := ⟨_, rfl⟩
  have hjl1 : jl.length ≤ 100000 := by rw [← hjl]; simp only [List.length_append, List.length_cons, List.length_nil] at hlen; omega
  have hkid : ∀ k, k < n → ∃ p T, w.cell? ⟨g, off + k, none⟩ = some p ∧ TreeAt w S d p T ∧ GoodT d T ∧ L[k]? = some (txT d T) ∧ (txT d T).length ≤ 100000 := by
    intro k hk
    obtain ⟨x, hx⟩ : ∃ x, xs[k]? = some x := ⟨_, List.getElem?_eq_getElem (show k < xs.length by omega)⟩
    obtain ⟨p, hp, htt⟩ := hcell k _ hx
    have hLk : L[k]? = some (txT d x) := by rw [← hL, List.getElem?_map, hx]; rfl
    refine ⟨p, _, hp, htt, hgood _ (List.mem_of_getElem? hx), hLk, ?_⟩
    have := joinS_le [44, 32] L _ (List.mem_of_getElem? hLk)
    rw [hjl] at this; omega
  rw [hjl]
  have hn1 : n ≤ 100001 := by
    have := joinS_ge [44, 32] (by decide) L
    rw [hjl, hLl] at this
    omega
  have KS := Lib.hid (fun (W : World) (hW : Below w.heap.size w W) => (⟨(hW.cell (p := ⟨b, 0, none⟩) hb).trans c0, (hW.cell (p := ⟨b, 6, none⟩) hb).trans c6, Lib.hid hW, Lib.hid (hl.later hW)⟩ : W.cell? ⟨b, 0, none⟩ = some (.int .i64 t.kind) ∧ W.cell? ⟨b, 6, none⟩ = some (.slice (some ⟨g, off, none⟩) n c) ∧ Hid (Below w.heap.size w W) ∧ Hid (LibOk W)))
  have c0d : w.drew.cell? ⟨b, 0, none⟩ = some (.int .i64 t.kind) := c0
  have KB : 0 ≤ t.kind ∧ t.kind ≤ 8 := by omega
  have hnl := nm_len t.kind (by omega) (by omega)
  have s1 : (bsOf (nmK t.kind)).size ≤ 11 := by rw [bsOf_data]; exact hnl
  have s2 : (bsOf jl).size ≤ 100000 := by rw [bsOf_data]; exact hjl1
  have HK0 := Lib.hid hkid
  have HJ := Lib.hid hjl
  have HLL := Lib.hid hLl
  have HS := Lib.hid hS
  have HIH := Lib.hid ih
  clear hkid hjl hLl hL hlen hcell hgood hkids hsev hT hn c6 c0 ih hS hbare hnl
  generalize t.kind = kk at *
  rcases hk with rfl | rfl
  all_goals
    go_enter Tryz.func100, Tryz.ntmps100
    go_wp2_with fail
    go_region_law (first
      | ((try go_simp); go_at_call 120; (refine (f_names _).mono ?_); rintro e wk ⟨v, rfl, hv, hbk⟩; have HK := Lib.hid (KS.out wk ((Below.refl w.heap.size w).drew.trans hbk)); obtain ⟨g2, off2, c2, rfl, hg2, hc2⟩ := names_cell hv _ KB.1 KB.2; have k0 := HK.out.1; (try simp only [Int.reduceToNat] at hc2); have HC := hc2; clear hv hbk; go_simp))
    all_goals
      have k6 := HK.out.2.1
      have hb1 := HK.out.2.2.1.out
      have hsz := hb1.size
      have HB1 := Lib.hid hb1
      clear hb1
      go_wp2_with fail
      go_loopw [4, 28] (fun v4 v28 wr => ∃ k : Nat, k ≤ n ∧ v28 = .int .i64 (k : Int) ∧ wr.ownsRow w.heap.size 9 1 v4 k ((L.take k).map fun l => .string (bsOf l)) ∧ Below w.heap.size w wr) (fun _ v28 _ => n - (intOf v28).toNat)
      case atStart => exact ⟨0, by omega, rfl, World.ownsRow_nil _ _ _ _, HB1.out⟩
      case round =>
        obtain ⟨k, hk, rfl, hown, hbl⟩ := hrel
        have hs3 := hbl.size
        by_cases hlt : k < n
        · obtain ⟨p, T, hp, htt, hgT, hLk, hTl⟩ := HK0.out k hlt
          have cp : wr.cell? ⟨g, off + k, none⟩ = some p := (hbl.cell (p := ⟨g, off + k, none⟩) hgb).trans hp
          obtain ⟨pb, rfl, -⟩ := htt.ptr
          have HTW := Lib.hid (htt.keep (w' := wr) fun q hq => hbl.block q (HS.out q hq))
          have z1 : (0 : Int) ≤ (k : Int) := by omega
          have z2 : (k : Int) < (n : Int) := by omega
          have HBL := Lib.hid hbl
          have HLK := Lib.hid hLk
          clear hp htt hLk hbl
          go_wp2_with fail
          refine (HIH.out T _ wr HTW.out HBL.out hgT hTl).mono ?_
          rintro e w1 ⟨rfl, hb2⟩
          have hown1 := hown.kept (only_of_below hb2 none) (by rename_i v4 _; cases Value.ownBlock _ <;> simp)
          have HB2 := Lib.hid (HBL.out.trans (hb2.mono hs3))
          have hs4 := hb2.size
          clear hb2 hown
          generalize txT d T = tx at *
          go_wp2_with (at_builtin; refine wpList_append_own _ rfl _ _ 107 rfl w.heap.size 9 i0 (.string ⟨#[]⟩) 1 16 Tryz.underlying107 hi hz0 hz1 hz2 rfl (by decide) _ _ _ rfl (hown1.alloc _) ⟨w1.heap.size, 0, none⟩ 1 1 [.string (bsOf tx)] rfl rfl (cell_one_new _ _ _) (by intro u hu; simp at hu; subst hu; rfl) (by unfold maxLen; omega) (by omega) (by simp; omega) ?_)
          intro v' w2 hown2 hgrow _
          have hlt2 := hown1.lt
          have hb3 : Below w.heap.size w w2 := (HB2.out.alloc (by omega) _).grown hgrow (by simp; omega) (fun g hg => (hlt2 g hg).1)
          have hown3 : w2.ownsRow w.heap.size 9 1 v' (k + 1) ((L.take (k + 1)).map fun l => .string (bsOf l)) := by
            rw [List.take_add_one, HLK.out]
            simpa using hown2
          have HO := Lib.hid hown3
          have HB3 := Lib.hid hb3
          clear hown2 hgrow hlt2 hb3 hown3 hown1
          go_wp2_with fail
          go_roundw
          case measure => simp [intOf]; omega
          case rel => exact ⟨k + 1, by omega, by go_num, HO.out, HB3.out⟩
        · have hkn : k = n := by omega
          subst hkn
          have htk : L.take k = L := List.take_of_length_le (by have := HLL.out; omega)
          rw [htk] at hown
          obtain ⟨q, cap, hv, _, hq⟩ := hown.form (by omega)
          subst hv
          have hcap : k ≤ cap := by
            rcases hown.2 with ⟨h1, _⟩ | ⟨g3, cap3, cur, h1, _, _, h2, _⟩
            · cases h1
            · injection h1 with _ _ h3; omega
          have hcells : ∀ j x, L[j]? = some x → wr.cell? ⟨q, 0 + j, none⟩ = some (.string (bsOf x)) := by
            intro j x hj
            have := hown.cells (g := q) rfl j (.string (bsOf x)) (by rw [List.getElem?_map, hj]; rfl)
            have ha : (⟨q, 0, none⟩ : Addr).add j = ⟨q, j, none⟩ := by unfold Addr.add; split <;> simp_all
            rw [ha] at this
            rw [Nat.zero_add]; exact this
          have HC2 := Lib.hid hcells
          have HBL := Lib.hid hbl
          have hj0 : ¬ (k : Int) < (k : Int) := by omega
          clear hcells htk hown hbl
          go_wp2_with (go_at_call 121; refine (i_Join q 0 k cap L _ HLL.out.symm hcap hq HC2.out (by rw [HJ.out]; omega) (by have := HLL.out; omega)).mono ?_; rw [HJ.out]; rintro e w2 ⟨rfl, hb2⟩)
          go_ret
          refine ⟨?_, HBL.out.trans (hb2.mono hs3)⟩
          exact congrArg (fun x : ByteArray => Ending.returned (.string x)) (by show bsOf _ ++ bsOf [40] ++ bsOf _ ++ bsOf [41] = _; simp only [bsOf_app, List.append_assoc])
end Go.Proofs.YtgeahbmaeaoeeaaGreatDoor
namespace Go.Proofs.YtgeahbmaeaoeeaaGreatDoor
open Go.RowKit Num

/-! ### How long a text is -/
theorem joinS_tail (sep : List UInt8) (L : List (List UInt8)) : (joinS sep L).length ≤ (Lib.joinTail sep L).length := by
  cases L with
  | nil => simp [joinS]
  | cons x r => simp [joinS, Lib.joinTail]
theorem name_len {l : List UInt8} (h : nameB l = true) : l.length ≤ 32 := by
  unfold nameB at h
  simp only [Bool.and_eq_true, decide_eq_true_eq] at h
  exact h.1.1.1.2
theorem leaf_len (t : Trm) (hb : bareB t = true) (hk : ¬ (t.kind = 1 ∨ t.kind = 2)) (d : Nat) (xs : List Tree) : (txT (d + 1) (.node t xs)).length ≤ 400 := by
  have hk8 := bare_kind hb
  have hn := nm_len t.kind hk8.1 hk8.2
  rw [txT_node, if_neg hk]
  unfold bareB at hb
  by_cases c3 : t.kind = 3 ∨ t.kind = 4
  · rw [if_neg (by omega), if_pos c3] at hb
    simp only [Bool.and_eq_true, decide_eq_true_eq, betwB] at hb
    have := itoa_small t.num (by omega) (by omega)
    rw [if_pos c3]; simp only [List.length_append, List.length_cons, List.length_nil]; omega
  · rw [if_neg c3]
    by_cases c5 : t.kind = 5
    · rw [if_neg (by omega), if_neg c3, if_pos c5] at hb
      simp only [Bool.and_eq_true, decide_eq_true_eq, betwB] at hb
      have h1 := itoa_small t.num (by omega) (by omega)
      have h2 := itoa_small t.yrs (by omega) (by omega)
      rw [c5] at hn
      rw [if_pos c5]; simp only [List.length_append, List.length_cons, List.length_nil, ofB]; omega
    · rw [if_neg c5]
      by_cases c7 : t.kind = 7
      · rw [if_neg (by omega), if_neg c3, if_neg c5, if_pos c7] at hb
        simp only [Bool.and_eq_true, decide_eq_true_eq, betwB] at hb
        have h1 := itoa_small t.num (by omega) (by omega)
        have h2 := name_len hb.1.1.1.2
        have h3 : (blOf t.text).length ≤ 256 := by rw [blOf_len]; omega
        rw [c7] at hn
        rw [if_pos c7]; simp only [List.length_append, List.length_cons, List.length_nil, ofB]; omega
      · rw [if_neg c7]; omega
theorem growA_txt {l : List Trm} {d : Nat} (hd : ∀ {at_ T n}, growF l d at_ = some (T, n) → (txT d T).length + 2 ≤ 402 * (n - at_) ∧ at_ ≤ n) :
    ∀ {ks nx xs n}, growA (growF l d) ks nx = some (xs, n) → (Lib.joinTail [44, 32] (xs.map (txT d))).length ≤ 402 * (n - nx) ∧ nx ≤ n := by
  intro ks
  induction ks with
  | nil => intro nx xs n h; simp [growA] at h; obtain ⟨rfl, rfl⟩ := h; simp [Lib.joinTail]
  | cons k ks ih =>
    intro nx xs n h
    unfold growA at h
    split at h
    · split at h
      · cases h
      · rename_i x af hx
        split at h
        · cases h
        · rename_i xs' n' ha
          injection h with h; injection h with h1 h2; subst h1; subst h2
          obtain ⟨e1, e2⟩ := hd hx
          obtain ⟨f1, f2⟩ := ih ha
          simp only [Lib.joinTail, List.map_cons, List.flatten_cons, List.length_append, List.length_cons, List.length_nil] at f1 ⊢
          omega
    · cases h
theorem grow_txt {l : List Trm} : ∀ d {at_ T n}, growF l d at_ = some (T, n) → (txT d T).length + 2 ≤ 402 * (n - at_) ∧ at_ ≤ n := by
  intro d
  induction d with
  | zero => intro at_ T n h; simp [growF] at h
  | succ d ih =>
    intro at_ T n h
    unfold growF at h
    split at h
    · cases h
    · rename_i t ht
      split at h
      · rename_i hb
        rw [Bool.and_eq_true] at hb
        split at h
        · cases h
        · rename_i xs n' ha
          injection h with h; injection h with h1 h2; subst h1; subst h2
          obtain ⟨f1, f2⟩ := growA_txt ih ha
          refine ⟨?_, by omega⟩
          by_cases hk : t.kind = 1 ∨ t.kind = 2
          · have hk8 := bare_kind hb.1
            have hn := nm_len t.kind hk8.1 hk8.2
            have hj := joinS_tail [44, 32] (xs.map (txT d))
            rw [txT_node, if_pos hk]
            simp only [List.length_append, List.length_cons, List.length_nil]
            omega
          · have := leaf_len t hb.1 hk d xs
            omega
      · cases h
theorem root_some {L : List Trm} {T : Tree} (h : rootF L = some T) : growF L 6 0 = some (T, L.length) ∧ L.length ≤ 24 := by
  unfold rootF at h
  split at h
  · rename_i h24
    split at h
    · cases h
    · rename_i t n hg
      split at h
      · rename_i hn
        injection h with h
        subst h
        exact ⟨by rw [hg, hn], h24⟩
      · cases h
  · cases h
theorem root_txt {L : List Trm} {T : Tree} (h : rootF L = some T) : (txT 6 T).length ≤ 10000 := by
  obtain ⟨h1, h2⟩ := root_some h
  have := (grow_txt 6 h1).1
  omega
theorem size_E {s : ByteArray} (h : s.size ≤ 4294967296) : s.size ≤ 4294967296 := h
/-! ### The text of a tree -/
theorem f_text : ∀ (d : Nat) (T : Tree) (v : Value) (S : Nat → Prop) (w : World), TreeAt w S d v T → (∀ b, S b → b < w.heap.size) → GoodT d T → LibOk w → (txT d T).length ≤ 100000 →
    Calls Tryz.prog 100 #[v] w (StrBel (txT d T) w) := by
  intro d
  induction d with
  | zero => intro T v S w ht; exact ht.elim
  | succ d ih =>
    intro T v S w ht hS hg hl hlen
    obtain ⟨t, xs⟩ := T
    have ht0 := ht
    have hg0 := hg
    obtain ⟨b, rfl, hSb, ⟨c0, c1, c2, c3, c4, _⟩, _⟩ := ht
    have hb := hS b hSb
    obtain ⟨hbare, _, _, _⟩ := hg
    have hk8 := bare_kind hbare
    by_cases hk : t.kind = 1 ∨ t.kind = 2
    · exact f_text_args d S w hS hl (fun T' v' W' h1 h2 h3 h4 => ih T' v' S W' h1 (fun q hq => Nat.lt_of_lt_of_le (hS q hq) h2.size) h3 (hl.later h2) h4) b t xs ht0 hg0 hk hlen
    · rw [txT_node, if_neg hk]
      have hbr := hbare
      unfold bareB at hbr
      by_cases c3' : t.kind = 3 ∨ t.kind = 4
      · rw [if_neg (by omega), if_pos c3'] at hbr
        simp only [Bool.and_eq_true, decide_eq_true_eq, betwB] at hbr
        rw [if_pos c3']
        exact f_text_num b t.kind t.num w c3' (by omega) (by omega) hl hb c0 c1
      · rw [if_neg c3']
        by_cases c5 : t.kind = 5
        · rw [if_neg (by omega), if_neg c3', if_pos c5] at hbr
          simp only [Bool.and_eq_true, decide_eq_true_eq, betwB] at hbr
          rw [if_pos c5]
          exact f_text_yrs b t.num t.yrs w (by omega) (by omega) (by omega) (by omega) hl hb (by rw [← c5]; exact c0) c1 c2
        · rw [if_neg c5]
          by_cases c7 : t.kind = 7
          · rw [if_neg (by omega), if_neg c3', if_neg c5, if_pos c7] at hbr
            simp only [Bool.and_eq_true, decide_eq_true_eq, betwB] at hbr
            rw [if_pos c7]
            have h2 := name_len hbr.1.1.1.2
            rw [blOf_len] at h2
            exact f_text_says b t.num t.field t.text w (by omega) (by omega) (by omega) (by omega) hl hb (by rw [← c7]; exact c0) c1 c3 c4
          · rw [if_neg c7]
            exact f_text_word b t.kind w (by omega) hb c0
def PrintPost (w : World) (o : Option Tree) (e : Ending) (w' : World) : Prop :=
  e = .returned (match o with | none => .tuple #[.string ⟨#[]⟩, .int .i64 14] | some T => .tuple #[.string (bsOf (txT 6 T)), .int .i64 0]) ∧ Below w.heap.size w w'
set_option maxRecDepth 100000 in
set_option maxHeartbeats 4000000 in
theorem f_Print (v : Value) (L : List Trm) (B : Nat) (w : World) (hv : TermsAt w (· < B) v L) (hB : B ≤ w.heap.size) (hL : L.length ≤ 1000000) (hok : ∀ t ∈ L, TrmOk t) (hl : LibOk w) :
    Calls Tryz.prog 80 #[.agg #[v]] w (PrintPost w (rootF L)) := by
  obtain ⟨A, n, c, rfl, -⟩ := id hv
  have hv2 : TermsAt (w.alloc (.cells #[.slice A n c] 58)) (· < B) (.slice A n c) L := hv.keep fun b hb => Below.heap_alloc w _ b (by omega)
  have hb0 : Below w.heap.size w (w.alloc (.cells #[.slice A n c] 58)) := (Below.refl _ _).alloc (Nat.le_refl _) _
  have HV := Lib.hid hv2
  have HB0 := Lib.hid hb0
  have HL := Lib.hid hL
  have HOK := Lib.hid hok
  have HLI := Lib.hid (hl.later hb0)
  clear hv hv2 hL hok hb0 hl
  cases hr : rootF L with
  | none =>
    have HR := Lib.hid hr
    clear hr
    go_enter Tryz.func80, Tryz.ntmps80
    go_wp2_with fail
    refine (f_root _ L B _ HV.out (by simp; omega) HL.out HOK.out).mono ?_
    rw [HR.out]
    rintro e w1 ⟨p, rfl, hb⟩
    go_wp2_with fail
    go_ret2
    exact ⟨rfl, HB0.out.trans (hb.mono (by simp))⟩
  | some T =>
    have hg := grow_good 6 (root_some hr).1
    have hlen := root_txt hr
    have HR := Lib.hid hr
    have HG := Lib.hid hg
    clear hr hg
    go_enter Tryz.func80, Tryz.ntmps80
    go_wp2_with fail
    refine (f_root _ L B _ HV.out (by simp; omega) HL.out HOK.out).mono ?_
    rw [HR.out]
    rintro e w1 ⟨p, rfl, ht, hb⟩
    obtain ⟨pb, rfl, -⟩ := ht.ptr
    have hs1 := hb.size
    have HT := Lib.hid ht
    clear ht
    go_wp2_with fail
    refine (f_text 6 T _ _ _ HT.out (fun b hS => ?_) HG.out (HLI.out.later hb) (by omega)).mono ?_
    · rcases hS with h | ⟨_, h⟩
      · simp at hs1; omega
      · exact h
    rintro e w2 ⟨rfl, hb2⟩
    go_wp2_with fail
    go_ret2
    exact ⟨rfl, (HB0.out.trans (hb.mono (by simp))).trans (hb2.mono (by simp at hs1; omega))⟩
end Go.Proofs.YtgeahbmaeaoeeaaGreatDoor
