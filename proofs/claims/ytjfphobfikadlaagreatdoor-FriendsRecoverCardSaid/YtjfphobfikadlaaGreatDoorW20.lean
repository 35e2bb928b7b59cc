/- Contracts: the shares that fit a circle, where all fit. Contracts: the shares that fit a circle, whichever fit. Contracts: the bytes of elements of three bytes each. -/
import Derived.Test.YtjfphobfikadlaaGreatDoorW18
import Derived.Test.YtjfphobfikadlaaGreatDoorW19
import Derived.Test.YtjfphobfikadlaaGreatDoorW15
set_option linter.unusedVariables false
set_option linter.unusedSimpArgs false
namespace Go.Proofs.YtjfphobfikadlaaGreatDoor
open Go.RowKit Num

def CopySPost (h : Int) (xs : List Int) (w : World) (e : Ending) (w' : World) : Prop := ∃ v, e = .returned (.agg #[.int .i64 h, v]) ∧ OwnI w' w.heap.size v xs ∧ Below w.heap.size w w'
theorem set2_blk {w : World} {C : Nat} {t : TypeId} {x0 x1 : Value} (kc : Blk w C t #[x0, x1]) (a b : Value) : Blk ((w.setCell ⟨C, 0, none⟩ a).setCell ⟨C, 1, none⟩ b) C t #[a, b] ∧ w.grownBy ((w.setCell ⟨C, 0, none⟩ a).setCell ⟨C, 1, none⟩ b) (some C) := by
  have k0 := (kc.set_ 0 a).set_ 1 b
  exact ⟨by simpa using k0, only_setCell (only_setCell (World.grownBy.refl w _) (p := ⟨C, 0, none⟩) (.inl rfl) _) (p := ⟨C, 1, none⟩) (.inl rfl) _⟩
set_option maxRecDepth 100000 in
set_option maxHeartbeats 2000000 in
theorem c_Share (h : Int) (u : Value) (xs : List Int) (S : Nat → Prop) (w : World) (hu : IntsAt w S u xs) (hS : ∀ b, S b → b < w.heap.size) (hl : xs.length ≤ 100000) :
    Calls Tryz.prog 125 #[.agg #[.int .i64 h, u]] w (CopySPost h xs w) := by
  obtain ⟨A, m, cu, rfl, -⟩ := id hu
  have hcl := fun (W : World) (hW : Below w.heap.size w W) => s_Clone (.slice A m cu) xs S W (hu.keep fun b hb => hW.block b (hS b hb)) (fun b hb => Nat.lt_of_lt_of_le (hS b hb) hW.size) (by omega)
  have k0 : Blk ((w.alloc (.cells #[.int .i64 h, .slice A m cu] 49)).alloc (.cells #[.int .i64 0, .slice none 0 0] 49)) w.heap.size 49 #[.int .i64 h, .slice A m cu] := (Blk.new w _ _).alloc _
  have k1 : Blk ((w.alloc (.cells #[.int .i64 h, .slice A m cu] 49)).alloc (.cells #[.int .i64 0, .slice none 0 0] 49)) (w.heap.size + 1) 49 #[.int .i64 0, .slice none 0 0] := by
    have := Blk.new (w.alloc (.cells #[.int .i64 h, .slice A m cu] 49)) 49 #[.int .i64 0, .slice none 0 0]
    simpa using this
  have hba : Below w.heap.size w ((w.alloc (.cells #[.int .i64 h, .slice A m cu] 49)).alloc (.cells #[.int .i64 0, .slice none 0 0] 49)) := ((Below.refl _ _).alloc (Nat.le_refl _) _).alloc (by simp) _
  have HCL := Lib.hid hcl
  have K0 := Lib.hid k0
  have K1 := Lib.hid k1
  have HBA := Lib.hid hba
  clear hcl k0 k1 hba hu
  go_enter Tryz.func125, Tryz.ntmps125
  go_wp2_with fail
  generalize (w.alloc (.cells #[.int .i64 h, .slice A m cu] 49)).alloc (.cells #[.int .i64 0, .slice none 0 0] 49) = w1 at *
  have p0 : w1.cell? ⟨w.heap.size, 0, none⟩ = some (.int .i64 h) := K0.out.cell 0
  have p1 : w1.cell? ⟨w.heap.size, 1, none⟩ = some (.slice A m cu) := K0.out.cell 1
  have z1 := K1.out.lt
  go_region_law (first
    | (go_simp; go_at_call 148; ((with_reducible refine (HCL.out _ HBA.out.drew).mono ?_); rintro e wk ⟨v2, rfl, hv2, hbk⟩; have hbk' : Below w1.heap.size w1 wk := ((Below.refl w1.heap.size w1).drew).trans hbk; have hv1 := own_one hv2; have kk0 := K0.out.below hbk' K0.out.lt; have kk1 := K1.out.below hbk' z1; have e0 : wk.cell? ⟨w.heap.size, 0, none⟩ = some (.int .i64 h) := kk0.cell 0; have r0 : wk.cell? ⟨w.heap.size + 1, 0, none⟩ = some (.int .i64 0) := kk1.cell 0; have r1 : wk.cell? ⟨w.heap.size + 1, 1, none⟩ = some (.slice none 0 0) := kk1.cell 1; have f0 := kk1.frozen 0; have f1 := kk1.frozen 1; have KK1 := Lib.hid kk1; have HBK := Lib.hid hbk'; have HV2 := Lib.hid hv2; obtain ⟨A2, n2, c2, rfl, -⟩ := IntsAt.of_own hv2; clear kk0 kk1 hbk hbk' hv2; go_simp)))
  all_goals
    obtain ⟨hkf, hgf⟩ := set2_blk KK1.out (.int .i64 h) (.slice A2 n2 c2)
    clear r0 r1 f0 f1 e0 p0 p1
    go_wp2_with fail
    generalize (wk.setCell ⟨w.heap.size + 1, 0, none⟩ (.int .i64 h)).setCell ⟨w.heap.size + 1, 1, none⟩ (.slice A2 n2 c2) = wf at *
    have q0 : wf.cell? ⟨w.heap.size + 1, 0, none⟩ = some (.int .i64 h) := hkf.cell 0
    have q1 : wf.cell? ⟨w.heap.size + 1, 1, none⟩ = some (.slice A2 n2 c2) := hkf.cell 1
    have hv3 : OwnI wk w.heap.size (.slice A2 n2 c2) xs := own_mono HV2.out (by have := HBA.out.size; simpa using this)
    have hv4 : OwnI wf w.heap.size (.slice A2 n2 c2) xs := World.ownsRow.kept hv3 hgf (.inr (own_blk_ne hv3 KK1.out (by decide)))
    have hbf := (HBA.out.trans (HBK.out.mono HBA.out.size)).grown hgf (HBA.out.trans (HBK.out.mono HBA.out.size)).size (fun g hg => by injection hg with hg; omega)
    exact bodyPost_ret (v := .agg #[.int .i64 h, .slice A2 n2 c2]) (by simp [results, Tryz.results125, go_sem, q0, q1]) rfl ⟨_, rfl, hv4, hbf⟩
set_option maxRecDepth 100000 in
set_option maxHeartbeats 2000000 in
theorem f_fitting (p need hold : Nat) (ep : Int) (vm v : Value) (L : List Sh) (ss : List ByteArray) (lock : ByteArray) (S T : Nat → Prop) (w : World) (hv : ShAt w S v L) (hS : ∀ b, S b → b < w.heap.size) (hl : L.length ≤ 1000) (h0 : 0 < L.length)
    (hm : StrsAt w T vm ss) (hT : ∀ b, T b → b < w.heap.size) (hml : ss.length ≤ 1000) (hf : Fit ss L) (hd : ∀ i j, i < L.length → j < L.length → i ≠ j → (shAt L i).1 ≠ (shAt L j).1) :
    Calls Tryz.prog 71 #[circV p need hold ep vm lock, v] w (OwnShPost L w) := by
  unfold circV
  obtain ⟨j0, hj, hy0, hy1, hy2⟩ := info_parts infoS
  obtain ⟨A, n, c, rfl, hn, -⟩ := id hv
  obtain ⟨Am, nm, cm, rfl, -⟩ := id hm
  have hba := (Below.refl w.heap.size w).alloc (Nat.le_refl _) (.cells #[.int .i64 (p : Int), .int .i64 (need : Int), .int .i64 (hold : Int), .int .i64 ep, .slice Am nm cm, .string lock] 40)
  have p4 : (w.alloc (.cells #[.int .i64 (p : Int), .int .i64 (need : Int), .int .i64 (hold : Int), .int .i64 ep, .slice Am nm cm, .string lock] 40)).cell? ⟨w.heap.size, 4, none⟩ = some (.slice Am nm cm) := by rw [World.cell?_alloc_new]; rfl
  have hmk := c_MarkedA (.slice A n c) (.slice Am nm cm) L ss S T (w.alloc (.cells #[.int .i64 (p : Int), .int .i64 (need : Int), .int .i64 (hold : Int), .int .i64 ep, .slice Am nm cm, .string lock] 40)) (hv.keep fun b hb => hba.block b (hS b hb)) (fun b hb => Nat.lt_of_lt_of_le (hS b hb) hba.size) hl h0
    (hm.keep fun b hb => hba.block b (hT b hb)) (fun b hb => Nat.lt_of_lt_of_le (hT b hb) hba.size) hml hf
  have HMK := Lib.hid hmk
  have HBA := Lib.hid hba
  have HF := Lib.hid hf
  have HD := Lib.hid hd
  have hn1 : n ≤ 1000 := by omega
  have hn0 : 0 < n := by omega
  have HN := Lib.hid hn
  clear hmk hba hf hd hn hv hm h0 hl
  go_enter Tryz.func71, Tryz.ntmps71
  go_wp2_with fail
  refine HMK.out.mono ?_
  rintro e w1 ⟨v1, rfl, hv1, hb1⟩
  have hw1 := HBA.out.trans (hb1.mono HBA.out.size)
  obtain ⟨A1, n1, c1, rfl, hnl1, hnc1, hcell1⟩ := hv1.at_
  have hn1n : n1 = n := by rw [hnl1, HN.out]
  subst hn1n
  have HW1 := Lib.hid hw1
  have HCC := Lib.hid hcell1
  clear hv1 hb1 hw1 hcell1 hnl1
  go_wp2_with fail
  go_loopw [5, 13] (fun o t wr => ∃ k : Nat, k ≤ n1 ∧ t = .int .i64 (k : Int) ∧ OwnSh wr w1.heap.size o (L.take k) ∧ Below w1.heap.size w1 wr) (fun _ t _ => n1 - (intOf t).toNat)
  case atStart => exact ⟨0, by omega, rfl, OwnSh.nil _ _, Below.refl _ _⟩
  case round =>
    obtain ⟨k, hk, rfl, hown, hbl⟩ := hrel
    have hzr := hbl.size
    by_cases hlt : k < n1
    · have hkl : k < L.length := by have := HN.out; omega
      obtain ⟨b, off, rfl, hSb, hcell⟩ := HCC.out (by omega)
      obtain ⟨u, m0, m1, hu⟩ := hcell k hlt
      have c0 := (hbl.cell (p := ⟨b, off + k * 2, none⟩) hSb.2).trans m0
      have c1' := (hbl.cell (p := ⟨b, off + k * 2 + 1, none⟩) hSb.2).trans m1
      have hur := hu.keep (w' := wr) fun b hb => hbl.block b hb.2
      obtain ⟨Au, nu, cu, rfl, -⟩ := id hur
      have htk := take_snoc_sh L k hkl
      have hlen := HF.out.len k hkl
      have hdd : ∀ i, i < k → (shAt L i).1 ≠ (shAt L k).1 := fun i hi => HD.out i k (by omega) hkl (by omega)
      obtain ⟨sh, hsh⟩ : ∃ sh, shAt L k = sh := ⟨_, rfl⟩
      rw [hsh] at c0 hur htk hlen hdd
      obtain ⟨h, xs⟩ := sh
      simp only at c0 hur hlen hdd
      have qk : (k : Int) < (n1 : Int) := by omega
      have ha : Below wr.heap.size wr (wr.alloc (.cells #[.int .i64 h, .slice Au nu cu] 49)) := (Below.refl _ _).alloc (Nat.le_refl _) _
      have g0 : (wr.alloc (.cells #[.int .i64 h, .slice Au nu cu] 49)).cell? ⟨wr.heap.size, 0, none⟩ = some (.int .i64 h) := by rw [World.cell?_alloc_new]; rfl
      have g1 : (wr.alloc (.cells #[.int .i64 h, .slice Au nu cu] 49)).cell? ⟨wr.heap.size, 1, none⟩ = some (.slice Au nu cu) := by rw [World.cell?_alloc_new]; rfl
      have hza : (wr.alloc (.cells #[.int .i64 h, .slice Au nu cu] 49)).heap.size = wr.heap.size + 1 := by simp
      have hltk : (L.take k).length = k := by rw [List.length_take]; omega
      have hct := s_ContainsF wr.heap.size u5 (L.take k) _ (wr.alloc (.cells #[.int .i64 h, .slice Au nu cu] 49)) ((hown.below ha).at_) (fun b hb => hb.2) (by omega) (fun i hi W u' hW hu' => by
        rw [hltk] at hi
        have e : shAt (L.take k) i = shAt L i := shAt_take L k i hi
        rw [e] at hu' ⊢
        exact f_other wr.heap.size _ h u' _ _ W hu' ((hW.cell (p := ⟨wr.heap.size, 0, none⟩) (by show wr.heap.size < _; omega)).trans g0) (hdd i hi))
      have hcs := fun (W : World) (hW : Below (wr.alloc (.cells #[.int .i64 h, .slice Au nu cu] 49)).heap.size (wr.alloc (.cells #[.int .i64 h, .slice Au nu cu] 49)) W) =>
        c_Share h (.slice Au nu cu) xs _ W ((hur.keep fun b hb => ha.block b (by have := hb.2; omega)).keep fun b hb => hW.block b (by have := hb.2; omega)) (fun b hb => by have := hb.2; have := hW.size; omega) hlen
      have HCT := Lib.hid hct
      have HCS := Lib.hid hcs
      have HA := Lib.hid ha
      have HOWN := Lib.hid hown
      have HBL := Lib.hid hbl
      have HTK := Lib.hid htk
      obtain ⟨Ao, no, co, rfl, -⟩ := hown.at_
      clear hct hcs ha hown hbl htk hur hu hcell m0 m1 hdd hsh
      go_wp2_with fail
      generalize hWa : (wr.alloc (.cells #[.int .i64 h, .slice Au nu cu] 49)) = W1 at *
      clear hWa
      refine HCT.out.mono ?_
      rintro e w2 ⟨rfl, hb2⟩
      have hz2 := hb2.size
      have d0 := (hb2.cell (p := ⟨wr.heap.size, 0, none⟩) (by show wr.heap.size < _; omega)).trans g0
      have d1 := (hb2.cell (p := ⟨wr.heap.size, 1, none⟩) (by show wr.heap.size < _; omega)).trans g1
      have HB2 := Lib.hid hb2
      clear hb2 g0 g1
      go_wp2_with fail
      refine (HCS.out _ HB2.out).mono ?_
      rintro e w3 ⟨v3, rfl, hv3, hb3⟩
      have hz3 := hb3.size
      have hb13 : Below wr.heap.size wr w3 := (HA.out.trans (HB2.out.mono (by omega))).trans (hb3.mono (by omega))
      have how3 := HOWN.out.kept (only_of_below hb13 none) (by cases (Value.slice Ao no co).ownBlock <;> simp) (fun u n xs _ => by cases u.ownBlock <;> simp)
      obtain ⟨cells, hr3, hk3⟩ := how3
      have hv3' : OwnI w3 w1.heap.size v3 xs := own_mono hv3 (by omega)
      have hone := own_one hv3'
      rw [hltk] at hr3
      have HK3 := Lib.hid hk3
      have HV3 := Lib.hid hv3'
      have HB13 := Lib.hid hb13
      clear hk3 hv3 hv3' hb3 hb13 d0 d1
      go_wp2_with (at_builtin; refine wpList_append_own _ rfl _ _ 41 rfl w1.heap.size 49 j0 (.agg #[.int .i64 0, .slice none 0 0]) 2 32 Tryz.underlying41 hj hy0 hy1 hy2 rfl (by decide) _ _ _ rfl (hr3.alloc _) ⟨w3.heap.size, 0, none⟩ 1 1 [.int .i64 h, v3] rfl rfl (World.news_of_block (cs := #[.int .i64 h, v3]) (t := 49) (fr := (0, 0)) (heap_alloc_new w3 _)) (one2 rfl hone) (by simp only [maxLen]; omega) (by omega) (by simp; omega) ?_)
      intro v5 w5 hown5 hgrow5 _
      have hg5 := grown_past hgrow5
      have hsn := OwnSh.snoc (L := L.take k) (x := (h, xs)) (by rw [hltk]; exact hr3) HK3.out hg5 (by rw [hltk]; exact hown5) HV3.out
      have hul : ∀ g, (Value.slice Ao no co).ownBlock = some g → w1.heap.size ≤ g := fun g hg => (hr3.lt g hg).1
      have hb5 := (HBL.out.trans (HB13.out.mono hzr)).grown hg5 (by omega) hul
      rw [← HTK.out] at hsn
      have HSN := Lib.hid hsn
      have HB5 := Lib.hid hb5
      clear hown5 hgrow5 hg5 hsn hul hb5 hr3
      go_wp2_with fail
      go_roundw
      case measure => simp [intOf]; omega
      case rel => exact ⟨k + 1, by omega, by go_num, HSN.out, HB5.out⟩
    · have hkn : k = n1 := by omega
      subst hkn
      have HBL := Lib.hid hbl
      have HOWN := Lib.hid hown
      clear hbl hown
      go_wp2_with fail
      go_ret
      refine ⟨_, rfl, ?_, HW1.out.trans (HBL.out.mono HW1.out.size)⟩
      have h := HOWN.out
      rw [List.take_of_length_le (by rw [← HN.out]; exact Nat.le_refl _)] at h
      obtain ⟨cells, a1, a2⟩ := h
      exact ⟨cells, own_mono a1 HW1.out.size, fun k hk => by obtain ⟨u, b1, b2, b3⟩ := a2 k hk; exact ⟨u, b1, b2, own_mono b3 HW1.out.size⟩⟩
end Go.Proofs.YtjfphobfikadlaaGreatDoor
namespace Go.Proofs.YtjfphobfikadlaaGreatDoor
open Go.RowKit Num

set_option maxRecDepth 100000 in
set_option maxHeartbeats 2000000 in
theorem f_fittingG (fb : Nat → Bool) (p need hold : Nat) (ep : Int) (vm v : Value) (L : List Sh) (ss : List ByteArray) (lock : ByteArray) (S T : Nat → Prop) (w : World) (hv : ShAt w S v L) (hS : ∀ b, S b → b < w.heap.size) (hl : L.length ≤ 1000) (h0 : 0 < L.length)
    (hm : StrsAt w T vm ss) (hT : ∀ b, T b → b < w.heap.size) (hml : ss.length ≤ 1000) (hf : FitG ss L fb) (hd : ∀ i j, i < (keepL fb L L.length).length → j < (keepL fb L L.length).length → i ≠ j → (shAt (keepL fb L L.length) i).1 ≠ (shAt (keepL fb L L.length) j).1) :
    Calls Tryz.prog 71 #[circV p need hold ep vm lock, v] w (OwnShPost (keepL fb L L.length) w) := by
  have hFx : ∀ k, k < (keepL fb L L.length).length → (shAt (keepL fb L L.length) k).2.length ≤ 100000 := fun k hk => by
    obtain ⟨i, hi, -, he⟩ := keepL_mem hk
    rw [he]; exact hf.len i hi
  have hFl : (keepL fb L L.length).length ≤ L.length := keepL_len fb L _
  unfold circV
  obtain ⟨j0, hj, hy0, hy1, hy2⟩ := info_parts infoS
  obtain ⟨A, n, c, rfl, hn, -⟩ := id hv
  obtain ⟨Am, nm, cm, rfl, -⟩ := id hm
  have hba := (Below.refl w.heap.size w).alloc (Nat.le_refl _) (.cells #[.int .i64 (p : Int), .int .i64 (need : Int), .int .i64 (hold : Int), .int .i64 ep, .slice Am nm cm, .string lock] 40)
  have p4 : (w.alloc (.cells #[.int .i64 (p : Int), .int .i64 (need : Int), .int .i64 (hold : Int), .int .i64 ep, .slice Am nm cm, .string lock] 40)).cell? ⟨w.heap.size, 4, none⟩ = some (.slice Am nm cm) := by rw [World.cell?_alloc_new]; rfl
  have hmk := c_MarkedG (.slice A n c) (.slice Am nm cm) L ss fb S T (w.alloc (.cells #[.int .i64 (p : Int), .int .i64 (need : Int), .int .i64 (hold : Int), .int .i64 ep, .slice Am nm cm, .string lock] 40)) (hv.keep fun b hb => hba.block b (hS b hb)) (fun b hb => Nat.lt_of_lt_of_le (hS b hb) hba.size) hl h0
    (hm.keep fun b hb => hba.block b (hT b hb)) (fun b hb => Nat.lt_of_lt_of_le (hT b hb) hba.size) hml hf
  obtain ⟨F, hF⟩ : ∃ F, keepL fb L L.length = F := ⟨_, rfl⟩
  rw [hF] at hmk hFx hFl hd ⊢
  have HMK := Lib.hid hmk
  have HFX := Lib.hid hFx
  have HBA := Lib.hid hba
  have HD := Lib.hid hd
  have hl1 : F.length ≤ 1000 := by omega
  clear hmk hba hf hd hn hv hm h0 hl hFx hFl hF
  go_enter Tryz.func71, Tryz.ntmps71
  go_wp2_with fail
  refine HMK.out.mono ?_
  rintro e w1 ⟨v1, rfl, hv1, hb1⟩
  have hw1 := HBA.out.trans (hb1.mono HBA.out.size)
  obtain ⟨A1, n1, c1, rfl, hnl1, hnc1, hcell1⟩ := hv1
  have hn1 : n1 ≤ 1000 := by omega
  have HN := Lib.hid hnl1
  have HW1 := Lib.hid hw1
  have HCC := Lib.hid hcell1
  clear hb1 hw1 hcell1 hnl1 hl1
  go_wp2_with fail
  go_loopw [5, 13] (fun o t wr => ∃ k : Nat, k ≤ n1 ∧ t = .int .i64 (k : Int) ∧ OwnSh wr w1.heap.size o (F.take k) ∧ Below w1.heap.size w1 wr) (fun _ t _ => n1 - (intOf t).toNat)
  case atStart => exact ⟨0, by omega, rfl, OwnSh.nil _ _, Below.refl _ _⟩
  case round =>
    obtain ⟨k, hk, rfl, hown, hbl⟩ := hrel
    have hzr := hbl.size
    by_cases hlt : k < n1
    · have hkl : k < F.length := by have := HN.out; omega
      obtain ⟨b, off, rfl, hSb, hcell⟩ := HCC.out (by omega)
      obtain ⟨u, m0, m1, hu⟩ := hcell k hlt
      have c0 := (hbl.cell (p := ⟨b, off + k * 2, none⟩) hSb.2).trans m0
      have c1' := (hbl.cell (p := ⟨b, off + k * 2 + 1, none⟩) hSb.2).trans m1
      have hur := hu.keep (w' := wr) fun b hb => hbl.block b hb.2
      obtain ⟨Au, nu, cu, rfl, -⟩ := id hur
      have htk := take_snoc_sh F k hkl
      have hlen := HFX.out k hkl
      have hdd : ∀ i, i < k → (shAt F i).1 ≠ (shAt F k).1 := fun i hi => HD.out i k (by omega) hkl (by omega)
      obtain ⟨sh, hsh⟩ : ∃ sh, shAt F k = sh := ⟨_, rfl⟩
      rw [hsh] at c0 hur htk hlen hdd
      obtain ⟨h, xs⟩ := sh
      simp only at c0 hur hlen hdd
      have qk : (k : Int) < (n1 : Int) := by omega
      have ha : Below wr.heap.size wr (wr.alloc (.cells #[.int .i64 h, .slice Au nu cu] 49)) := (Below.refl _ _).alloc (Nat.le_refl _) _
      have g0 : (wr.alloc (.cells #[.int .i64 h, .slice Au nu cu] 49)).cell? ⟨wr.heap.size, 0, none⟩ = some (.int .i64 h) := by rw [World.cell?_alloc_new]; rfl
      have g1 : (wr.alloc (.cells #[.int .i64 h, .slice Au nu cu] 49)).cell? ⟨wr.heap.size, 1, none⟩ = some (.slice Au nu cu) := by rw [World.cell?_alloc_new]; rfl
      have hza : (wr.alloc (.cells #[.int .i64 h, .slice Au nu cu] 49)).heap.size = wr.heap.size + 1 := by simp
      have hltk : (F.take k).length = k := by rw [List.length_take]; omega
      have hct := s_ContainsF wr.heap.size u5 (F.take k) _ (wr.alloc (.cells #[.int .i64 h, .slice Au nu cu] 49)) ((hown.below ha).at_) (fun b hb => hb.2) (by omega) (fun i hi W u' hW hu' => by
        rw [hltk] at hi
        have e : shAt (F.take k) i = shAt F i := shAt_take F k i hi
        rw [e] at hu' ⊢
        exact f_other wr.heap.size _ h u' _ _ W hu' ((hW.cell (p := ⟨wr.heap.size, 0, none⟩) (by show wr.heap.size < _; omega)).trans g0) (hdd i hi))
      have hcs := fun (W : World) (hW : Below (wr.alloc (.cells #[.int .i64 h, .slice Au nu cu] 49)).heap.size (wr.alloc (.cells #[.int .i64 h, .slice Au nu cu] 49)) W) =>
        c_Share h (.slice Au nu cu) xs _ W ((hur.keep fun b hb => ha.block b (by have := hb.2; omega)).keep fun b hb => hW.block b (by have := hb.2; omega)) (fun b hb => by have := hb.2; have := hW.size; omega) hlen
      have HCT := Lib.hid hct
      have HCS := Lib.hid hcs
      have HA := Lib.hid ha
      have HOWN := Lib.hid hown
      have HBL := Lib.hid hbl
      have HTK := Lib.hid htk
      obtain ⟨Ao, no, co, rfl, -⟩ := hown.at_
      clear hct hcs ha hown hbl htk hur hu hcell m0 m1 hdd hsh
      go_wp2_with fail
      generalize hWa : (wr.alloc (.cells #[.int .i64 h, .slice Au nu cu] 49)) = W1 at *
      clear hWa
      refine HCT.out.mono ?_
      rintro e w2 ⟨rfl, hb2⟩
      have hz2 := hb2.size
      have d0 := (hb2.cell (p := ⟨wr.heap.size, 0, none⟩) (by show wr.heap.size < _; omega)).trans g0
      have d1 := (hb2.cell (p := ⟨wr.heap.size, 1, none⟩) (by show wr.heap.size < _; omega)).trans g1
      have HB2 := Lib.hid hb2
      clear hb2 g0 g1
      go_wp2_with fail
      refine (HCS.out _ HB2.out).mono ?_
      rintro e w3 ⟨v3, rfl, hv3, hb3⟩
      have hz3 := hb3.size
      have hb13 : Below wr.heap.size wr w3 := (HA.out.trans (HB2.out.mono (by omega))).trans (hb3.mono (by omega))
      have how3 := HOWN.out.kept (only_of_below hb13 none) (by cases (Value.slice Ao no co).ownBlock <;> simp) (fun u n xs _ => by cases u.ownBlock <;> simp)
      obtain ⟨cells, hr3, hk3⟩ := how3
      have hv3' : OwnI w3 w1.heap.size v3 xs := own_mono hv3 (by omega)
      have hone := own_one hv3'
      rw [hltk] at hr3
      have HK3 := Lib.hid hk3
      have HV3 := Lib.hid hv3'
      have HB13 := Lib.hid hb13
      clear hk3 hv3 hv3' hb3 hb13 d0 d1
      go_wp2_with (at_builtin; refine wpList_append_own _ rfl _ _ 41 rfl w1.heap.size 49 j0 (.agg #[.int .i64 0, .slice none 0 0]) 2 32 Tryz.underlying41 hj hy0 hy1 hy2 rfl (by decide) _ _ _ rfl (hr3.alloc _) ⟨w3.heap.size, 0, none⟩ 1 1 [.int .i64 h, v3] rfl rfl (World.news_of_block (cs := #[.int .i64 h, v3]) (t := 49) (fr := (0, 0)) (heap_alloc_new w3 _)) (one2 rfl hone) (by simp only [maxLen]; omega) (by omega) (by simp; omega) ?_)
      intro v5 w5 hown5 hgrow5 _
      have hg5 := grown_past hgrow5
      have hsn := OwnSh.snoc (L := F.take k) (x := (h, xs)) (by rw [hltk]; exact hr3) HK3.out hg5 (by rw [hltk]; exact hown5) HV3.out
      have hul : ∀ g, (Value.slice Ao no co).ownBlock = some g → w1.heap.size ≤ g := fun g hg => (hr3.lt g hg).1
      have hb5 := (HBL.out.trans (HB13.out.mono hzr)).grown hg5 (by omega) hul
      rw [← HTK.out] at hsn
      have HSN := Lib.hid hsn
      have HB5 := Lib.hid hb5
      clear hown5 hgrow5 hg5 hsn hul hb5 hr3
      go_wp2_with fail
      go_roundw
      case measure => simp [intOf]; omega
      case rel => exact ⟨k + 1, by omega, by go_num, HSN.out, HB5.out⟩
    · have hkn : k = n1 := by omega
      subst hkn
      have HBL := Lib.hid hbl
      have HOWN := Lib.hid hown
      clear hbl hown
      go_wp2_with fail
      go_ret
      refine ⟨_, rfl, ?_, HW1.out.trans (HBL.out.mono HW1.out.size)⟩
      have h := HOWN.out
      rw [List.take_of_length_le (by rw [← HN.out]; exact Nat.le_refl _)] at h
      obtain ⟨cells, a1, a2⟩ := h
      exact ⟨cells, own_mono a1 HW1.out.size, fun k hk => by obtain ⟨u, b1, b2, b3⟩ := a2 k hk; exact ⟨u, b1, b2, own_mono b3 HW1.out.size⟩⟩
end Go.Proofs.YtjfphobfikadlaaGreatDoor
namespace Go.Proofs.YtjfphobfikadlaaGreatDoor
open Go.RowKit Num

theorem cells_app1 (l : List UInt8) (j : Nat) (h : j < l.length) : Lib.byteCells (l.take (j + 1)) = Lib.byteCells (l.take j) ++ [.int .u8 ((l[j]).toNat : Int)] := by
  rw [List.take_succ_eq_append_getElem h]
  unfold Lib.byteCells
  rw [List.map_append]; rfl
set_option maxRecDepth 100000 in
theorem row_string (w : World) (base g cap : Nat) (l : List UInt8) (m : Nat) (h : w.ownsRow base 5 1 (.slice (some ⟨g, 0, none⟩) m cap) m (Lib.byteCells l)) (hm : l.length = m) :
    (convert 91 9 (.slice (some ⟨g, 0, none⟩) m cap)).run Tryz.prog w = .ok (.string ⟨l.toArray⟩) w := by
  subst hm
  have hcv := run_convert_bytes_arg (P := Tryz.prog) w 91 5 Tryz.underlying91 Tryz.underlying5 g 0 l.length cap (l.map fun c => (c.toNat : Int)) (by simp) (fun i hi => by
    rw [Nat.zero_add, h.cellAt i (by omega)]
    unfold Lib.byteCells
    rw [List.getElem?_map, List.getElem?_eq_getElem hi, List.getD_eq_getElem?_getD, List.getElem?_map, List.getElem?_eq_getElem hi]; rfl) 9 Tryz.underlying9
  have hst : strOfNums (l.map fun c => (c.toNat : Int)) = ⟨l.toArray⟩ := by
    unfold strOfNums
    congr 2
    rw [List.map_map]
    conv => rhs; rw [← List.map_id l]
    congr 1
    funext c
    simp
  rwa [hst] at hcv
set_option maxRecDepth 100000 in
set_option maxHeartbeats 2000000 in
theorem p_byBytes (v : Value) (bl : List UInt8) (S : Nat → Prop) (w : World) (hv : IntsAt w S v (pack3 bl)) (hS : ∀ b, S b → b < w.heap.size) (hb : bl.length = 16) :
    Calls Tryz.prog 130 #[v, .int .i64 16, .int .i64 3] w fun e w' => e = .returned (.tuple #[.string ⟨bl.toArray⟩, .bool true]) ∧ Below w.heap.size w w' := by
  obtain ⟨A, n, c, rfl, hn, hnc, hcc⟩ := hv
  obtain ⟨i0, hi, hz0, hz1, hz2⟩ := info_parts infoB
  have hn6 : n = 6 := by rw [hn, pack3_len, hb]
  subst hn6
  have HCC := Lib.hid hcc
  have HB := Lib.hid hb
  clear hn hcc hb
  go_enter Tryz.func130, Tryz.ntmps130
  go_wp2_with fail
  go_loopw [8, 15] (fun o t wr => ∃ k : Nat, k ≤ 6 ∧ t = .int .i64 (k : Int) ∧ wr.ownsRow w.heap.size 5 1 o (min (3 * k) 16) (Lib.byteCells (bl.take (3 * k))) ∧ Below w.heap.size w wr) (fun _ t _ => 6 - (intOf t).toNat)
  case atStart => exact ⟨0, by omega, rfl, by simpa [Lib.byteCells] using World.ownsRow_nil _ _ _ _, Below.refl _ _⟩
  case round =>
    obtain ⟨k, hk, rfl, hown, hbl⟩ := hrel
    have hzz := hbl.size
    by_cases hlt : k < 6
    · obtain ⟨b, off, rfl, hSb, hcell⟩ := HCC.out (by decide)
      have ck := (hbl.cell (p := ⟨b, off + k, none⟩) (hS b hSb)).trans (hcell k hlt)
      rw [pack3_get bl k (by rw [HB.out]; omega)] at ck
      have hpl := pk3_lt bl k
      rw [HB.out] at hpl
      have hby : ∀ j, (hj : 3 * k + j < bl.length) → j < 3 → pk3 bl k / 256 ^ (min 3 (16 - 3 * k) - 1 - j) % 256 = (bl[3 * k + j]).toNat := fun j hj hj3 => by
        have h := pk3_byte bl k j hj hj3
        rw [HB.out] at h
        rw [← h]; simp
      obtain ⟨x, hx⟩ : ∃ x, pk3 bl k = x := ⟨_, rfl⟩
      rw [hx] at ck hpl hby
      obtain ⟨q, hq⟩ : ∃ q, 3 * k = q := ⟨_, rfl⟩
      have hq2 : min (3 * k) 16 = q := by omega
      rw [hq2] at hown
      rw [hq] at hown hpl hby
      have hq15 : q ≤ 15 := by omega
      have HQ := Lib.hid hq
      have HBY := Lib.hid hby
      have HOWN := Lib.hid hown
      have HBL := Lib.hid hbl
      have hw1 : IntKind.i64.wrap (16 - (q : Int)) = 16 - (q : Int) := IntWalk.i64_in _ ⟨by omega, by omega⟩
      obtain ⟨Ao, no, co, rfl, hno⟩ : ∃ Ao no co, (u8 : Value) = .slice Ao no co ∧ no = q := by
        rcases id hown.2 with ⟨h1, h2⟩ | ⟨g, cap, cur, h1, -⟩
        · exact ⟨none, 0, 0, h1, h2.symm⟩
        · exact ⟨_, q, cap, h1, rfl⟩
      subst hno
      have qk : (k : Int) < 6 := by omega
      have hx0 : decide ((x : Int) < 0) = false := decide_eq_false (by omega)
      rcases (show (min (3 : Int) (16 - (no : Int)) = 3 ∧ min 3 (16 - no) = 3 ∧ no ≤ 12) ∨ (min (3 : Int) (16 - (no : Int)) = 1 ∧ min 3 (16 - no) = 1 ∧ 15 ≤ no) by omega) with ⟨hm, hm', hno⟩ | ⟨hm, hm', hno⟩
      · rw [hm'] at hpl
        have hpl' : x < 16777216 := hpl
        have hsh : (x : Int) / 16777216 = 0 := by omega
        clear hown hbl hby hq hcell hx
        obtain ⟨wo, hwo⟩ : ∃ wo : World, wo = wr := ⟨_, rfl⟩
        subst hwo
        go_wp2_with fail
        go_loopw [8, 12] (fun o t wq => ∃ j : Nat, j ≤ 3 ∧ t = .int .i64 (2 - (j : Int)) ∧ wq.ownsRow w.heap.size 5 1 o (no + j) (Lib.byteCells (bl.take (no + j))) ∧ Below w.heap.size w wq) (fun _ t _ => (intOf t + 1).toNat)
        case atStart => exact ⟨0, by omega, rfl, by rw [Nat.add_zero, ← HQ.out]; exact HQ.out ▸ HOWN.out, HBL.out⟩
        case round =>
          obtain ⟨j, hj, rfl, hownj, hblj⟩ := hrel
          have hzj := hblj.size
          have HOJ := Lib.hid hownj
          have HBJ := Lib.hid hblj
          clear hblj
          rcases (show j = 0 ∨ j = 1 ∨ j = 2 ∨ j = 3 by omega) with rfl | rfl | rfl | rfl
          · have hjl : no + 0 < bl.length := by rw [HB.out]; omega
            have hst := cells_app1 bl (no + 0) hjl
            have hc := HBY.out 0 hjl (by decide)
            rw [hm'] at hc
            have hval : (x : Int) / 65536 = ((bl[no + 0]).toNat : Int) := by rw [← hc]; show _ = ((x / 256 ^ (3 - 1 - 0) % 256 : Nat) : Int); have : x / 256 ^ (3 - 1 - 0) = x / 65536 := rfl; omega
            rw [← hval] at hst
            have HST := Lib.hid hst
            clear hst hc hval hownj
            go_wp2_with (at_builtin; refine wpList_append_own _ rfl _ _ 91 rfl w.heap.size 5 i0 (.int .u8 0) 1 1 Tryz.underlying91 hi hz0 hz1 hz2 rfl (by decide) _ _ _ rfl (HOJ.out.alloc _) ⟨wr.heap.size, 0, none⟩ 1 1 [.int .u8 ((x : Int) / 65536)] rfl rfl (fun j u hj => by have := cell_one_new wr (.int .u8 ((x : Int) / 65536)) 5 j u hj; simpa using this) (ints_oneCell .u8 [_]) (by unfold maxLen; omega) (by omega) (by simp; omega) ?_)
            intro v' w5 hown' hgrow _
            have hg := grown_past hgrow
            have hown2 : w5.ownsRow w.heap.size 5 1 v' (no + 1) (Lib.byteCells (bl.take (no + 1))) := by
              rw [show no + 1 = no + 0 + 1 from rfl, HST.out]; simpa using hown'
            have hul : ∀ g, (u8 : Value).ownBlock = some g → w.heap.size ≤ g := fun g hg => (HOJ.out.lt g hg).1
            have HO5 := Lib.hid hown2
            have HB5 := Lib.hid (HBJ.out.grown hg hzj hul)
            clear hown' hgrow hg hown2 hul
            go_wp2_with fail
            go_roundw
            case measure => simp [intOf]
            case rel => exact ⟨1, by omega, rfl, HO5.out, HB5.out⟩
          · have hjl : no + 1 < bl.length := by rw [HB.out]; omega
            have hst := cells_app1 bl (no + 1) hjl
            have hc := HBY.out 1 hjl (by decide)
            rw [hm'] at hc
            have hval : (x : Int) / 256 % 256 = ((bl[no + 1]).toNat : Int) := by rw [← hc]; show _ = ((x / 256 ^ (3 - 1 - 1) % 256 : Nat) : Int); have : x / 256 ^ (3 - 1 - 1) = x / 256 := rfl; omega
            rw [← hval] at hst
            have HST := Lib.hid hst
            clear hst hc hval hownj
            go_wp2_with (at_builtin; refine wpList_append_own _ rfl _ _ 91 rfl w.heap.size 5 i0 (.int .u8 0) 1 1 Tryz.underlying91 hi hz0 hz1 hz2 rfl (by decide) _ _ _ rfl (HOJ.out.alloc _) ⟨wr.heap.size, 0, none⟩ 1 1 [.int .u8 ((x : Int) / 256 % 256)] rfl rfl (fun j u hj => by have := cell_one_new wr (.int .u8 ((x : Int) / 256 % 256)) 5 j u hj; simpa using this) (ints_oneCell .u8 [_]) (by unfold maxLen; omega) (by omega) (by simp; omega) ?_)
            intro v' w5 hown' hgrow _
            have hg := grown_past hgrow
            have hown2 : w5.ownsRow w.heap.size 5 1 v' (no + 2) (Lib.byteCells (bl.take (no + 2))) := by
              rw [show no + 2 = no + 1 + 1 from rfl, HST.out]; simpa using hown'
            have hul : ∀ g, (u8 : Value).ownBlock = some g → w.heap.size ≤ g := fun g hg => (HOJ.out.lt g hg).1
            have HO5 := Lib.hid hown2
            have HB5 := Lib.hid (HBJ.out.grown hg hzj hul)
            clear hown' hgrow hg hown2 hul
            go_wp2_with fail
            go_roundw
            case measure => simp [intOf]
            case rel => exact ⟨2, by omega, rfl, HO5.out, HB5.out⟩
          · have hjl : no + 2 < bl.length := by rw [HB.out]; omega
            have hst := cells_app1 bl (no + 2) hjl
            have hc := HBY.out 2 hjl (by decide)
            rw [hm'] at hc
            have hval : (x : Int) % 256 = ((bl[no + 2]).toNat : Int) := by rw [← hc]; show _ = ((x / 256 ^ (3 - 1 - 2) % 256 : Nat) : Int); have : x / 256 ^ (3 - 1 - 2) = x / 1 := rfl; omega
            rw [← hval] at hst
            have HST := Lib.hid hst
            clear hst hc hval hownj
            go_wp2_with (at_builtin; refine wpList_append_own _ rfl _ _ 91 rfl w.heap.size 5 i0 (.int .u8 0) 1 1 Tryz.underlying91 hi hz0 hz1 hz2 rfl (by decide) _ _ _ rfl (HOJ.out.alloc _) ⟨wr.heap.size, 0, none⟩ 1 1 [.int .u8 ((x : Int) % 256)] rfl rfl (fun j u hj => by have := cell_one_new wr (.int .u8 ((x : Int) % 256)) 5 j u hj; simpa using this) (ints_oneCell .u8 [_]) (by unfold maxLen; omega) (by omega) (by simp; omega) ?_)
            intro v' w5 hown' hgrow _
            have hg := grown_past hgrow
            have hown2 : w5.ownsRow w.heap.size 5 1 v' (no + 3) (Lib.byteCells (bl.take (no + 3))) := by
              rw [show no + 3 = no + 2 + 1 from rfl, HST.out]; simpa using hown'
            have hul : ∀ g, (u8 : Value).ownBlock = some g → w.heap.size ≤ g := fun g hg => (HOJ.out.lt g hg).1
            have HO5 := Lib.hid hown2
            have HB5 := Lib.hid (HBJ.out.grown hg hzj hul)
            clear hown' hgrow hg hown2 hul
            go_wp2_with fail
            go_roundw
            case measure => simp [intOf]
            case rel => exact ⟨3, by omega, rfl, HO5.out, HB5.out⟩
          · clear hownj
            go_wp2_with fail
            go_roundw
            case measure => simp [intOf]; omega
            case rel =>
              refine ⟨k + 1, by omega, by go_num, ?_, HBJ.out⟩
              have h := HOJ.out
              have hq := HQ.out
              rw [show min (3 * (k + 1)) 16 = no + 3 by omega, show 3 * (k + 1) = no + 3 by omega]
              exact h
      · rw [hm'] at hpl
        have hpl' : x < 256 := hpl
        have hsh : (x : Int) / 256 = 0 := by omega
        clear hown hbl hby hq hcell hx
        obtain ⟨wo, hwo⟩ : ∃ wo : World, wo = wr := ⟨_, rfl⟩
        subst hwo
        go_wp2_with fail
        go_loopw [8, 12] (fun o t wq => ∃ j : Nat, j ≤ 1 ∧ t = .int .i64 (0 - (j : Int)) ∧ wq.ownsRow w.heap.size 5 1 o (no + j) (Lib.byteCells (bl.take (no + j))) ∧ Below w.heap.size w wq) (fun _ t _ => (intOf t + 1).toNat)
        case atStart => exact ⟨0, by omega, rfl, by rw [Nat.add_zero, ← HQ.out]; exact HQ.out ▸ HOWN.out, HBL.out⟩
        case round =>
          obtain ⟨j, hj, rfl, hownj, hblj⟩ := hrel
          have hzj := hblj.size
          have HOJ := Lib.hid hownj
          have HBJ := Lib.hid hblj
          clear hblj
          rcases (show j = 0 ∨ j = 1 by omega) with rfl | rfl
          · have hjl : no + 0 < bl.length := by rw [HB.out]; omega
            have hst := cells_app1 bl (no + 0) hjl
            have hc := HBY.out 0 hjl (by decide)
            rw [hm'] at hc
            have hval : (x : Int) = ((bl[no + 0]).toNat : Int) := by rw [← hc]; show _ = ((x / 256 ^ (1 - 1 - 0) % 256 : Nat) : Int); have : x / 256 ^ (1 - 1 - 0) = x / 1 := rfl; omega
            rw [← hval] at hst
            have HST := Lib.hid hst
            clear hst hc hval hownj
            go_wp2_with (at_builtin; refine wpList_append_own _ rfl _ _ 91 rfl w.heap.size 5 i0 (.int .u8 0) 1 1 Tryz.underlying91 hi hz0 hz1 hz2 rfl (by decide) _ _ _ rfl (HOJ.out.alloc _) ⟨wr.heap.size, 0, none⟩ 1 1 [.int .u8 ((x : Int))] rfl rfl (fun j u hj => by have := cell_one_new wr (.int .u8 ((x : Int))) 5 j u hj; simpa using this) (ints_oneCell .u8 [_]) (by unfold maxLen; omega) (by omega) (by simp; omega) ?_)
            intro v' w5 hown' hgrow _
            have hg := grown_past hgrow
            have hown2 : w5.ownsRow w.heap.size 5 1 v' (no + 1) (Lib.byteCells (bl.take (no + 1))) := by
              rw [show no + 1 = no + 0 + 1 from rfl, HST.out]; simpa using hown'
            have hul : ∀ g, (u8 : Value).ownBlock = some g → w.heap.size ≤ g := fun g hg => (HOJ.out.lt g hg).1
            have HO5 := Lib.hid hown2
            have HB5 := Lib.hid (HBJ.out.grown hg hzj hul)
            clear hown' hgrow hg hown2 hul
            go_wp2_with fail
            go_roundw
            case measure => simp [intOf]
            case rel => exact ⟨1, by omega, rfl, HO5.out, HB5.out⟩
          · clear hownj
            go_wp2_with fail
            go_roundw
            case measure => simp [intOf]; omega
            case rel =>
              refine ⟨k + 1, by omega, by go_num, ?_, HBJ.out⟩
              have h := HOJ.out
              have hq := HQ.out
              rw [show min (3 * (k + 1)) 16 = no + 1 by omega, List.take_of_length_le (by rw [HB.out]; omega)]
              rw [List.take_of_length_le (by rw [HB.out]; omega)] at h
              exact h
    · have hk6 : k = 6 := by omega
      subst hk6
      rw [show min (3 * 6) 16 = 16 from rfl, List.take_of_length_le (by rw [HB.out]; decide)] at hown
      have HBL := Lib.hid hbl
      clear hbl
      rcases id hown.2 with ⟨h1, h2⟩ | ⟨g, cap, cur, rfl, -⟩
      · cases h2
      have hcv := row_string wr w.heap.size g cap bl 16 hown HB.out
      clear hown
      go_wp2_with fail
      go_ret2
      exact ⟨rfl, HBL.out⟩
end Go.Proofs.YtjfphobfikadlaaGreatDoor
