/- Contracts: the text of a tree, of terms with parts too. -/
import Derived.Test.YthfmmememdlekaaDoorFmText2
set_option linter.unusedVariables false
set_option linter.unusedSimpArgs false
namespace Go.Proofs.YthfmmememdlekaaDoor
open Go.RowKit Num

theorem joinS_le (sep : List UInt8) : ∀ (L : List (List UInt8)) (a : List UInt8), a ∈ L → a.length ≤ (joinS sep L).length := by
  intro L a ha
  cases L with
  | nil => cases ha
  | cons x r =>
    unfold joinS
    rw [List.length_append]
    rcases List.mem_cons.1 ha with rfl | h
    · omega
    · have : ∀ r : List (List UInt8), a ∈ r → a.length ≤ (Lib.joinTail sep r).length := by
        intro r
        induction r with
        | nil => intro h; cases h
        | cons y s ih =>
          intro h
          simp only [Lib.joinTail, List.map_cons, List.flatten_cons, List.length_append] at ih ⊢
          rcases List.mem_cons.1 h with rfl | h
          · omega
          · have := ih h; omega
      have := this r h; omega
theorem joinS_ge (sep : List UInt8) (hs : 1 ≤ sep.length) (L : List (List UInt8)) : L.length ≤ (joinS sep L).length + 1 := by
  cases L with
  | nil => simp
  | cons x r =>
    unfold joinS
    have : ∀ r : List (List UInt8), r.length ≤ (Lib.joinTail sep r).length := by
      intro r
      induction r with
      | nil => simp
      | cons y s ih =>
        simp only [Lib.joinTail, List.map_cons, List.flatten_cons, List.length_append, List.length_cons] at ih ⊢
        omega
    have := this r
    rw [List.length_append, List.length_cons]; omega
theorem i_Join (g off n c : Nat) (L : List (List UInt8)) (w : World) (hn : n = L.length) (hnc : n ≤ c) (hg : g < w.heap.size) (hc : ∀ k x, L[k]? = some x → w.cell? ⟨g, off + k, none⟩ = some (.string (bsOf x))) (hl : (joinS [44, 32] L).length ≤ 1000000) (hL : L.length ≤ 1000000) :
    Calls Tryd.prog 55 #[.slice (some ⟨g, off, none⟩) n c, .string ⟨#[44, 32]⟩] w (StrBel (joinS [44, 32] L) w) := by
  have hmap : (L.map bsOf).map (·.data.toList) = L := by
    rw [List.map_map]
    have e : ((fun x : ByteArray => x.data.toList) ∘ bsOf) = id := rfl
    rw [e, List.map_id]
  have hlen : (L.map bsOf).length = n := by rw [List.length_map, hn]
  have h := Tryd.strings_Join g off c (L.map bsOf) ⟨#[44, 32]⟩ w (fun j x hj => by
    rw [List.getElem?_map] at hj
    obtain ⟨y, hy, rfl⟩ := Option.map_eq_some_iff.1 hj
    exact hc j y hy) hg (by rw [hlen]; omega) (by rw [hlen]; exact hnc) (by rw [hmap]; show (Lib.join L [44, 32]).length ≤ _; rw [joinS_join]; omega)
  rw [hlen] at h
  refine h.mono ?_
  rintro e w' ⟨rfl, hb⟩
  refine ⟨?_, hb⟩
  rw [hmap]
  show Ending.returned (.string ⟨(Lib.join L [44, 32]).toArray⟩) = _
  rw [joinS_join]; rfl
theorem infoStr : (Tryd.prog.info? 9).map (fun i => (i.zero, i.size, i.bytes)) = some (some (.string ⟨#[]⟩), 1, 16) := by kernel_rfl
set_option maxRecDepth 100000 in
set_option maxHeartbeats 4000000 in
theorem f_text_args (d : Nat) (S : Nat → Prop) (w : World) (hS : ∀ b, S b → b < w.heap.size) (hl : LibOk w)
    (ih : ∀ (T : Tree) (v : Value) (W : World), TreeAt W S d v T → Below w.heap.size w W → GoodT d T → (txT d T).length ≤ 100000 → Calls Tryd.prog 35 #[v] W (StrBel (txT d T) W))
    (b : Nat) (t : Trm) (xs : List Tree) (ht : TreeAt w S (d + 1) (.pointer (some ⟨b, 0, none⟩)) (.node t xs)) (hg : GoodT (d + 1) (.node t xs)) (hk : t.kind = 1 ∨ t.kind = 2) (hlen : (txT (d + 1) (.node t xs)).length ≤ 100000) :
    Calls Tryd.prog 35 #[.pointer (some ⟨b, 0, none⟩)] w (StrBel (txT (d + 1) (.node t xs)) w) := by
  obtain ⟨i0, hi, hz0, hz1, hz2⟩ := info_parts infoStr
  obtain ⟨b', hbb, hSb, hT, A, n, c, c6, hn, hnc, hkids⟩ := ht
  injection hbb with hbb; injection hbb with hbb; injection hbb with hbb
  subst hbb
  have hb := hS b hSb
  have c0 : w.cell? ⟨b, 0, none⟩ = some (.int .i64 t.kind) := hT.1
  obtain ⟨hbare, hsev, hx1, hgood⟩ := hg
  have hpos : 0 < n := by
    have : severalB t.kind = true := by unfold severalB; simp [hk]
    rw [this] at hsev
    rw [hn]; exact of_decide_eq_true hsev.symm
  obtain ⟨g, off, rfl, hSg, hcell⟩ := hkids hpos
  have hgb := hS g hSg
  rw [txT_node, if_pos hk] at hlen ⊢
  obtain ⟨L, hL⟩ : ∃ L, xs.map (txT d) = L := ⟨_, rfl⟩
  have hLl : L.length = n := by rw [← hL, List.length_map, hn]
  rw [hL] at hlen ⊢
  obtain ⟨jl, hjl⟩ : ∃ jl, joinS [44, 32] L = jl := ⟨_, rfl⟩
  have hjl1 : jl.length ≤ 100000 := by rw [← hjl]; simp only [List.length_append, List.length_cons, List.length_nil] at hlen; omega
  have hkid : ∀ k, k < n → ∃ p T, w.cell? ⟨g, off + k, none⟩ = some p ∧ TreeAt w S d p T ∧ GoodT d T ∧ L[k]? = some (txT d T) ∧ (txT d T).length ≤ 100000 := by
    intro k hk
    obtain ⟨x, hx⟩ : ∃ x, xs[k]? = some x := ⟨_, List.getElem?_eq_getElem (show k < xs.length by omega)⟩
    obtain ⟨p, hp, htt⟩ := hcell k _ hx
    have hLk : L[k]? = some (txT d x) := by rw [← hL, List.getElem?_map, hx]; rfl
    refine ⟨p, _, hp, htt, hgood _ (List.mem_of_getElem? hx), hLk, ?_⟩
    have := joinS_le [44, 32] L _ (List.mem_of_getElem? hLk)
    rw [hjl] at this; omega
  rw [hjl]
  have hn1 : n ≤ 100001 := by
    have := joinS_ge [44, 32] (by decide) L
    rw [hjl, hLl] at this
    omega
  have KS := Lib.hid (fun (W : World) (hW : Below w.heap.size w W) => (⟨(hW.cell (p := ⟨b, 0, none⟩) hb).trans c0, (hW.cell (p := ⟨b, 6, none⟩) hb).trans c6, Lib.hid hW, Lib.hid (hl.later hW)⟩ : W.cell? ⟨b, 0, none⟩ = some (.int .i64 t.kind) ∧ W.cell? ⟨b, 6, none⟩ = some (.slice (some ⟨g, off, none⟩) n c) ∧ Hid (Below w.heap.size w W) ∧ Hid (LibOk W)))
  have c0d : w.drew.cell? ⟨b, 0, none⟩ = some (.int .i64 t.kind) := c0
  have KB : 0 ≤ t.kind ∧ t.kind ≤ 8 := by omega
  have hnl := nm_len t.kind (by omega) (by omega)
  have s1 : (bsOf (nmK t.kind)).size ≤ 11 := by rw [bsOf_data]; exact hnl
  have s2 : (bsOf jl).size ≤ 100000 := by rw [bsOf_data]; exact hjl1
  have HK0 := Lib.hid hkid
  have HJ := Lib.hid hjl
  have HLL := Lib.hid hLl
  have HS := Lib.hid hS
  have HIH := Lib.hid ih
  clear hkid hjl hLl hL hlen hcell hgood hkids hsev hT hn c6 c0 ih hS hbare hnl
  generalize t.kind = kk at *
  rcases hk with rfl | rfl
  all_goals
    go_enter Tryd.func35, Tryd.ntmps35
    go_wp2_with fail
    go_region_law (first
      | ((try go_simp); go_at_call 54; (refine (f_names _).mono ?_); rintro e wk ⟨v, rfl, hv, hbk⟩; have HK := Lib.hid (KS.out wk ((Below.refl w.heap.size w).drew.trans hbk)); obtain ⟨g2, off2, c2, rfl, hg2, hc2⟩ := names_cell hv _ KB.1 KB.2; have k0 := HK.out.1; (try simp only [Int.reduceToNat] at hc2); have HC := hc2; clear hv hbk; go_simp))
    all_goals
      have k6 := HK.out.2.1
      have hb1 := HK.out.2.2.1.out
      have hsz := hb1.size
      have HB1 := Lib.hid hb1
      clear hb1
      go_wp2_with fail
      go_loopw [4, 28] (fun v4 v28 wr => ∃ k : Nat, k ≤ n ∧ v28 = .int .i64 (k : Int) ∧ wr.ownsRow w.heap.size 9 1 v4 k ((L.take k).map fun l => .string (bsOf l)) ∧ Below w.heap.size w wr) (fun _ v28 _ => n - (intOf v28).toNat)
      case atStart => exact ⟨0, by omega, rfl, World.ownsRow_nil _ _ _ _, HB1.out⟩
      case round =>
        obtain ⟨k, hk, rfl, hown, hbl⟩ := hrel
        have hs3 := hbl.size
        by_cases hlt : k < n
        · obtain ⟨p, T, hp, htt, hgT, hLk, hTl⟩ := HK0.out k hlt
          have cp : wr.cell? ⟨g, off + k, none⟩ = some p := (hbl.cell (p := ⟨g, off + k, none⟩) hgb).trans hp
          obtain ⟨pb, rfl, -⟩ := htt.ptr
          have HTW := Lib.hid (htt.keep (w' := wr) fun q hq => hbl.block q (HS.out q hq))
          have z1 : (0 : Int) ≤ (k : Int) := by omega
          have z2 : (k : Int) < (n : Int) := by omega
          have HBL := Lib.hid hbl
          have HLK := Lib.hid hLk
          clear hp htt hLk hbl
          go_wp2_with fail
          refine (HIH.out T _ wr HTW.out HBL.out hgT hTl).mono ?_
          rintro e w1 ⟨rfl, hb2⟩
          have hown1 := hown.kept (only_of_below hb2 none) (by rename_i v4 _; cases Value.ownBlock _ <;> simp)
          have HB2 := Lib.hid (HBL.out.trans (hb2.mono hs3))
          have hs4 := hb2.size
          clear hb2 hown
          generalize txT d T = tx at *
          go_wp2_with (at_builtin; refine wpList_append_own _ rfl _ _ 34 rfl w.heap.size 9 i0 (.string ⟨#[]⟩) 1 16 Tryd.underlying34 hi hz0 hz1 hz2 rfl (by decide) _ _ _ rfl (hown1.alloc _) ⟨w1.heap.size, 0, none⟩ 1 1 [.string (bsOf tx)] rfl rfl (cell_one_new _ _ _) (by intro u hu; simp at hu; subst hu; rfl) (by unfold maxLen; omega) (by omega) (by simp; omega) ?_)
          intro v' w2 hown2 hgrow _
          have hlt2 := hown1.lt
          have hb3 : Below w.heap.size w w2 := (HB2.out.alloc (by omega) _).grown hgrow (by simp; omega) (fun g hg => (hlt2 g hg).1)
          have hown3 : w2.ownsRow w.heap.size 9 1 v' (k + 1) ((L.take (k + 1)).map fun l => .string (bsOf l)) := by
            rw [List.take_add_one, HLK.out]
            simpa using hown2
          have HO := Lib.hid hown3
          have HB3 := Lib.hid hb3
          clear hown2 hgrow hlt2 hb3 hown3 hown1
          go_wp2_with fail
          go_roundw
          case measure => simp [intOf]; omega
          case rel => exact ⟨k + 1, by omega, by go_num, HO.out, HB3.out⟩
        · have hkn : k = n := by omega
          subst hkn
          have htk : L.take k = L := List.take_of_length_le (by have := HLL.out; omega)
          rw [htk] at hown
          obtain ⟨q, cap, hv, _, hq⟩ := hown.form (by omega)
          subst hv
          have hcap : k ≤ cap := by
            rcases hown.2 with ⟨h1, _⟩ | ⟨g3, cap3, cur, h1, _, _, h2, _⟩
            · cases h1
            · injection h1 with _ _ h3; omega
          have hcells : ∀ j x, L[j]? = some x → wr.cell? ⟨q, 0 + j, none⟩ = some (.string (bsOf x)) := by
            intro j x hj
            have := hown.cells (g := q) rfl j (.string (bsOf x)) (by rw [List.getElem?_map, hj]; rfl)
            have ha : (⟨q, 0, none⟩ : Addr).add j = ⟨q, j, none⟩ := by unfold Addr.add; split <;> simp_all
            rw [ha] at this
            rw [Nat.zero_add]; exact this
          have HC2 := Lib.hid hcells
          have HBL := Lib.hid hbl
          have hj0 : ¬ (k : Int) < (k : Int) := by omega
          clear hcells htk hown hbl
          go_wp2_with (go_at_call 55; refine (i_Join q 0 k cap L _ HLL.out.symm hcap hq HC2.out (by rw [HJ.out]; omega) (by have := HLL.out; omega)).mono ?_; rw [HJ.out]; rintro e w2 ⟨rfl, hb2⟩)
          go_ret
          refine ⟨?_, HBL.out.trans (hb2.mono hs3)⟩
          exact congrArg (fun x : ByteArray => Ending.returned (.string x)) (by show bsOf _ ++ bsOf [40] ++ bsOf _ ++ bsOf [41] = _; simp only [bsOf_app, List.append_assoc])
end Go.Proofs.YthfmmememdlekaaDoor
