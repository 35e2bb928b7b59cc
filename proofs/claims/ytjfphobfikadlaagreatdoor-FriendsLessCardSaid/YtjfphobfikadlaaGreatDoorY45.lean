/- Contract: the reference's shares that explain a secret, where the known ones leave one open. -/
import Derived.Test.YtjfphobfikadlaaGreatDoorY44
set_option linter.unusedVariables false
set_option linter.unusedSimpArgs false
namespace Go.Proofs.YtjfphobfikadlaaGreatDoor
open Go.RowKit Num Go.Maps

def ExpPost (p hold : Nat) (K : List Sh) (sec : List Int) (w : World) (e : Ending) (w' : World) : Prop :=
  ∃ v, e = .returned (.tuple #[v, .int .i64 0]) ∧ ShAt w' (fun b => w.heap.size ≤ b ∧ b < w'.heap.size) v (explL p hold K sec) ∧ Below w.heap.size w w'
theorem cell_keeps {B : Nat} {W W' : World} {a : Addr} {v : Value} (hb : Below B W W') (h : W.cell? a = some v) (hl : a.block < B) : W'.cell? a = some v := (hb.cell hl).trans h
theorem ExpS.congr {W : World} {B g hold : Nat} {us : Nat → Value} {rows rows' : Nat → List Int} (h : ExpS W B g hold us rows) (hr : ∀ j, j < hold → rows j = rows' j) : ExpS W B g hold us rows' :=
  ⟨h.own, fun j hj => by rw [← hr j hj]; exact h.row j hj, h.apart⟩
theorem expl_next (p : Nat) (K : List Sh) (sec : List Int) (h i : Nat) : (List.range (i + 1)).map (explV p K sec h) = (List.range i).map (explV p K sec h) ++ [explV p K sec h i] := by
  rw [List.range_succ, List.map_append]; rfl
set_option maxRecDepth 100000 in
set_option maxHeartbeats 8000000 in
theorem r_ExplainA (p need hold m : Nat) (vk vs : Value) (K : List Sh) (sec : List Int) (S T : Nat → Prop) (w : World) (hp : Prm p) (h2 : p ≤ 1073741824) (n1 : 1 ≤ need) (n2 : need ≤ hold) (n3 : hold ≤ 16) (n4 : hold < p)
    (hv : ShAt w S vk K) (hS : ∀ b, S b → b < w.heap.size) (hs : IntsAt w T vs sec) (hT : ∀ b, T b → b < w.heap.size) (hk : K.length + 1 = need) (hsl : sec.length = m) (hm : m ≤ 2048) (ho : GoodSh p hold m K) (hf : InF p sec) :
    Calls Tryz.prog 29 #[planV p need hold, vk, vs] w (ExpPost p hold K sec w) := by
  obtain ⟨i0, hi, hz0, hz1, hz2⟩ := info_parts infoI
  obtain ⟨j0, hj, hy0, hy1, hy2⟩ := info_parts infoS
  obtain ⟨A, n, c, rfl, hn, hnc, hc⟩ := id hv
  obtain ⟨Au, nu, cu, rfl, hnu, hncu, hcu⟩ := id hs
  have hmm := @run_makeMap Tryz.prog
  have hmk := fun (W : World) => run_make (P := Tryz.prog) W 41 49 j0 (.agg #[.int .i64 0, .slice none 0 0]) Tryz.underlying41 hj hy0 .i64 .i64 hold hold (by omega) (by omega) (by rw [hy2]; omega) (by omega)
  simp only [Int.toNat_natCast, hy1] at hmk
  have kp : Blk (w.alloc (.cells #[.int .i64 (p : Int), .int .i64 (need : Int), .int .i64 (hold : Int)] 34)) w.heap.size 34 #[.int .i64 (p : Int), .int .i64 (need : Int), .int .i64 (hold : Int)] := Blk.new w _ _
  have hb0 : Below w.heap.size w (w.alloc (.cells #[.int .i64 (p : Int), .int .i64 (need : Int), .int .i64 (hold : Int)] 34)) := (Below.refl _ _).alloc (Nat.le_refl _) _
  have hval := fun W => r_PValid p need hold W hp h2 n1 n2 n3 n4
  have hgd : ∀ W, Below w.heap.size w W → Calls Tryz.prog 77 #[.agg #[.int .i64 (p : Int), .int .i64 (need : Int), .int .i64 (hold : Int)], .slice A n c] W (BoolBelow true W) := fun W hW =>
    r_GoodA p need hold m (.slice A n c) K S W hp h2 n3 (hv.keep fun b hb => hW.block b (hS b hb)) (fun b hb => Nat.lt_of_lt_of_le (hS b hb) hW.size) (by omega) hm ho
  have hel : ∀ W, Below w.heap.size w W → Calls Tryz.prog 78 #[.int .i64 (p : Int), .slice Au nu cu] W fun e w' => e = .returned (.bool true) ∧ W = w' := fun W hW =>
    r_Elements p (.slice Au nu cu) sec T W hp h2 (hs.keep fun b hb => hW.block b (hT b hb)) (by omega) hf
  have hpt : ∀ W i, i < m → Below w.heap.size w W → Calls Tryz.prog 79 #[.slice A n c, .int .i64 (i : Int)] W (PointsPost2 K i W) := fun W i him hW => r_Points2 _ K i S W (hv.keep fun b hb => hW.block b (hS b hb)) (fun b hb => Nat.lt_of_lt_of_le (hS b hb) hW.size) (by omega) (fun k hk => by rw [ho.len k hk]; exact him)
  have hsf := ho.hsF n4
  have hdi := ho.dist
  have hhl : (hsOf K).length = n := by rw [hsOf_len, hn]
  have hX : (hsOf K ++ [0]).length = K.length + 1 := by simp [hhl, hn]
  have hXb : ∀ k, k < (hsOf K ++ [0]).length → 0 ≤ fOf (hsOf K ++ [0]) k ∧ fOf (hsOf K ++ [0]) k < p := fun k hk => by
    rcases Nat.lt_or_ge k n with h | h
    · have e : fOf (hsOf K ++ [0]) k = fOf (hsOf K) k := by unfold fOf; rw [List.getD_eq_getElem?_getD, List.getD_eq_getElem?_getD, List.getElem?_append_left (by omega)]
      rw [e]; exact hsf k (by omega)
    · have e : fOf (hsOf K ++ [0]) k = 0 := by unfold fOf; rw [List.getD_eq_getElem?_getD, List.getElem?_append_right (by omega), show k - (hsOf K).length = 0 by omega]; rfl
      rw [e]; omega
  have hXd : ∀ i j, i < (hsOf K ++ [0]).length → j < i → fOf (hsOf K ++ [0]) j ≠ fOf (hsOf K ++ [0]) i := fun i j hi hj => by
    have e1 : fOf (hsOf K ++ [0]) j = fOf (hsOf K) j := by unfold fOf; rw [List.getD_eq_getElem?_getD, List.getD_eq_getElem?_getD, List.getElem?_append_left (by omega)]
    rcases Nat.lt_or_ge i n with h | h
    · have e : fOf (hsOf K ++ [0]) i = fOf (hsOf K) i := by unfold fOf; rw [List.getD_eq_getElem?_getD, List.getD_eq_getElem?_getD, List.getElem?_append_left (by omega)]
      rw [e, e1]; exact hdi j i (by omega) (by omega) (by omega)
    · have e : fOf (hsOf K ++ [0]) i = 0 := by unfold fOf; rw [List.getD_eq_getElem?_getD, List.getElem?_append_right (by omega), show i - (hsOf K).length = 0 by omega]; rfl
      rw [e, e1]
      have := ho.holder j (by omega)
      rw [hsOf_get _ _ (by omega)]
      omega
  have hip : ∀ W vx vy i h U V, i < m → h < hold → IntsAt W U vx (hsOf K ++ [0]) → (∀ b, U b → b < W.heap.size) → IntsAt W V vy (colY K i ++ [sec.getD i 0]) → (∀ b, V b → b < W.heap.size) → Calls Tryz.prog 80 #[.int .i64 (p : Int), vx, vy, .int .i64 ((h : Int) + 1)] W fun e w' => e = .returned (.tuple #[.int .i64 (explV p K sec h i), .int .i64 0]) ∧ Below W.heap.size W w' := fun W vx vy i h U V him hh h1 hU h3 hV => by
    have := r_Interpolate p vx vy (hsOf K ++ [0]) (colY K i ++ [sec.getD i 0]) U V ((h : Int) + 1) W hp h2 h1 hU h3 hV (by omega) (by omega) (by simp [hX, colY_len]) (by omega) (by omega) hXb hXd (by
      intro k hk
      rcases Nat.lt_or_ge k n with h | h
      · rw [List.getD_eq_getElem?_getD, List.getElem?_append_left (by rw [colY_len]; omega), ← List.getD_eq_getElem?_getD]
        exact ho.colF i him k (by rw [colY_len]; omega)
      · have hkl : k - (colY K i).length = 0 := by rw [colY_len]; simp [colY_len] at hk; omega
        rw [List.getD_eq_getElem?_getD, List.getElem?_append_right (by rw [colY_len]; omega), hkl]
        exact hf i (by omega))
    rw [hX] at this
    exact this
  have hlen0 := fun h : 0 < n => ho.len 0 (by omega)
  have HV := Lib.hid hv
  have HSV := Lib.hid hs
  have HVL := Lib.hid hval
  have HGD := Lib.hid hgd
  have HEL := Lib.hid hel
  have HPT := Lib.hid hpt
  have HIP := Lib.hid hip
  have HB0 := Lib.hid hb0
  have KP := Lib.hid kp
  have HL0 := Lib.hid hlen0
  have HN := Lib.hid hn
  have HNU := Lib.hid hnu
  have HSS := Lib.hid hS
  have HTT := Lib.hid hT
  have HO := Lib.hid ho
  have hn16 : n + 1 ≤ 16 := by omega
  have hnn1 : n + 1 ≤ need := by omega
  have hnn2 : need ≤ n + 1 := by omega
  have hnum : nu = m := by omega
  have tq1 : decide ((need : Int) ≤ (n : Int)) = false := decide_eq_false (by omega)
  have tq2 : decide (need ≤ n) = false := decide_eq_false (by omega)
  have tq3 : decide ((2048 : Int) < (nu : Int)) = false := decide_eq_false (by omega)
  clear hv hs hc hcu hsf hdi hhl hX hXb hXd hpt hip hb0 kp ho hlen0 hn hnu hval hgd hel hS hT hf
  subst hnum
  unfold planV at *
  have HHK := Lib.hid hk
  have HSL := Lib.hid hsl
  clear hk hsl
  rcases Nat.eq_zero_or_pos n with q0 | q0
  · have tz1 : decide ((0 : Int) < (n : Int)) = false := decide_eq_false (by omega)
    have tz2 : decide (0 < n) = false := decide_eq_false (by omega)
    have HQ0 := Lib.hid q0
    clear q0 HL0
    go_enter Tryz.func29, Tryz.ntmps29
    go_wp2_with fail
    refine (HVL.out _).mono ?_
    rintro e w1 ⟨rfl, hb1⟩
    have kp1 := KP.out.below hb1 KP.out.lt
    have hb := HB0.out.trans (hb1.mono HB0.out.size)
    have s0 : w1.cell? ⟨w.heap.size, 0, none⟩ = some (.int .i64 (p : Int)) := kp1.cell 0
    have s1 : w1.cell? ⟨w.heap.size, 1, none⟩ = some (.int .i64 (need : Int)) := kp1.cell 1
    have s2 : w1.cell? ⟨w.heap.size, 2, none⟩ = some (.int .i64 (hold : Int)) := kp1.cell 2
    have hz := kp1.lt
    have HB1 := Lib.hid hb
    have KP1 := Lib.hid kp1
    clear hb1 kp1 hb
    go_wp2_with fail
    refine (HGD.out _ HB1.out).mono ?_
    rintro e w2 ⟨rfl, hb2⟩
    have hb := HB1.out.trans (hb2.mono HB1.out.size)
    have kp2 := KP1.out.below hb2 hz
    have s0' : w2.cell? ⟨w.heap.size, 0, none⟩ = some (.int .i64 (p : Int)) := kp2.cell 0
    have s1' : w2.cell? ⟨w.heap.size, 1, none⟩ = some (.int .i64 (need : Int)) := kp2.cell 1
    have s2' : w2.cell? ⟨w.heap.size, 2, none⟩ = some (.int .i64 (hold : Int)) := kp2.cell 2
    have hz2' := kp2.lt
    have HB2 := Lib.hid hb
    have KP2 := Lib.hid kp2
    clear hb2 kp2 hb s0 s1 s2
    go_wp2_with fail
    refine (HEL.out _ HB2.out).mono ?_
    rintro e w' ⟨rfl, rfl⟩
    go_wp2_with fail
    go_loopw [65] (fun t wr => ∃ (k : Nat) (D : DataW Unit), k ≤ n ∧ t = .int .i64 k ∧ wr.ownsMap Tryz.prog 3 (plainElem Tryz.prog 4) w2.heap.size k D ∧ Below w2.heap.size w2 wr ∧ w2.heap.size < wr.heap.size) (fun t _ => n - (intOf t).toNat)
    case atStart => exact ⟨0, .map [], Nat.zero_le _, rfl, World.ownsMap_made _ _ _ _, (Below.refl _ _).alloc (Nat.le_refl _) _, by simp⟩
    case round =>
      rename World => w3
      obtain ⟨k, D, hk, rfl, hown, hbl, hzz⟩ := hrel
      have hww := HB2.out.trans (hbl.mono (Nat.le_of_lt hz2'))
      have HBL := Lib.hid hbl
      have HOWN := Lib.hid hown
      have HWW := Lib.hid hww
      clear hbl hown hww
      by_cases hlt : k < n
      · obtain ⟨A1, n1', c1, hv1, e1, e2, hcs⟩ := HV.out
        injection hv1 with v1 v2 v3
        subst v1 v2 v3
        obtain ⟨b2, off2, hA, hSb2, hcell2⟩ := hcs (by omega)
        cases hA
        obtain ⟨u2, y0, y1, hyu⟩ := hcell2 k hlt
        obtain ⟨A2, ny, cy, rfl, -, -, -⟩ := id hyu
        have hho := HO.out.holder k (by have := HN.out; omega)
        have r0 := cell_keeps HWW.out y0 (HSS.out _ hSb2)
        have r1 := cell_keeps HWW.out y1 (HSS.out _ hSb2)
        obtain ⟨G, hG⟩ : ∃ G, (shAt K k).1 = G := ⟨_, rfl⟩
        rw [hG] at r0 hho
        have hown1 := HOWN.out.alloc (.cells #[.int .i64 G, .slice A2 ny cy] 49)
        have HB4 := Lib.hid (HBL.out.alloc (Nat.le_of_lt hzz) (.cells #[.int .i64 G, .slice A2 ny cy] 49))
        have qk : (k : Int) < (n : Int) := by omega
        clear e1 e2 hcs hcell2 y0 y1 hyu hG
        go_wp2_with (at_mapUpdate; refine wpList_mapUpdate_own _ rfl _ _ _ 103 rfl 3 4 lawI Tryz.underlying103 (plainElem (H := Unit) Tryz.prog 4) w2.heap.size k _ rfl hown1 (by unfold maxLen; omega) _ _ _ rfl rfl (keyOf_int_mk Tryz.underlying3 (WalkArith.wf_i64 (by omega))) _ [] (plainElem_bool Tryz.underlying4 true) ?_)
        intro w5 hown5 hgrow5
        have hb5 := HB4.out.grown hgrow5 HB4.out.size (fun j hj => by cases hj; exact Nat.le_refl _)
        have hs5 := hgrow5.size
        have hs6 : w3.heap.size ≤ w5.heap.size := by simp at hs5; omega
        have HO5 := Lib.hid hown5
        have HB5 := Lib.hid hb5
        clear hown5 hgrow5 hb5 hown1 hs5
        go_wp2_with fail
        go_roundw
        case measure => simp [intOf]; omega
        case rel => exact ⟨k + 1, _, by omega, by go_num, HO5.out, HB5.out, by omega⟩
      · have hkk : k = n := by omega
        subst hkk
        have r0 := cell_keeps HBL.out s0' hz2'
        have r1 := cell_keeps HBL.out s1' hz2'
        have r2 := cell_keeps HBL.out s2' hz2'
        have hz3 : w.heap.size < w3.heap.size := by omega
        have HMK := Lib.hid (hoL_made hold)
        clear HOWN
        go_wp2_with fail
        go_loopw [78] (fun t wq => ∃ k : Nat, k ≤ hold ∧ t = .int .i64 k ∧ wq.ownsRow w3.heap.size 49 2 (.slice (some ⟨w3.heap.size, 0, none⟩) hold hold) hold (shC (hoL hold k) fun _ => .slice none 0 0) ∧ Below w3.heap.size w3 wq) (fun t _ => hold - (intOf t).toNat)
        case atStart =>
          refine ⟨0, by omega, rfl, ?_, (Below.refl _ _).alloc (Nat.le_refl _) _⟩
          rw [← HMK.out]
          exact World.ownsRow_lit w3 _ hold (Nat.le_refl _) (by simp only [maxLen]; omega) (size_madeCells _ _)
        case round =>
          rename World => w4
          obtain ⟨k4, hk4, rfl, hown, hbl⟩ := hrel
          have hzz4 := hbl.size
          by_cases hlt : k4 < hold
          · have c4 := World.ownsRow.cellAt hown (k4 * 2) (by omega)
            rw [hoL_cells hold k4 _ (k4 * 2) (by omega), if_pos (by omega), if_neg (by omega)] at c4
            have f4 := World.ownsRow.frozenAt hown (k4 * 2)
            have hst := (World.ownsRow.stored hown (k4 * 2) (.int .i64 ((k4 : Int) + 1))).1
            rw [Nat.mul_comm k4 2, hoL_next hold k4 _ hlt, Nat.mul_comm 2 k4] at hst
            have HST := Lib.hid hst
            have HB4 := Lib.hid (hbl.setCell (p := ⟨w3.heap.size, k4 * 2, none⟩) (Nat.le_refl _) (.int .i64 ((k4 : Int) + 1)))
            have qk : (k4 : Int) < (hold : Int) := by omega
            have qk0 : (0 : Int) ≤ (k4 : Int) := by omega
            clear hst hown hbl
            go_wp2_with fail
            go_roundw
            case measure => simp [intOf]; omega
            case rel => exact ⟨k4 + 1, by omega, by go_num, HST.out, HB4.out⟩
          · have hkk : k4 = hold := by omega
            subst hkk
            have hex : ExpS w4 w3.heap.size w3.heap.size k4 (fun _ => .slice none 0 0) fun _ => [] := ⟨hown, fun _ _ => OwnI.nil _ _, fun _ _ _ _ _ _ h => by simp [Value.ownBlock] at h⟩
            have HEX := Lib.hid hex
            have HBL4 := Lib.hid hbl
            clear hex hown hbl
            go_wp2_with fail
            go_loopw [90] (fun t wq => ∃ (i : Nat) (us : Nat → Value), i ≤ nu ∧ t = .int .i64 i ∧ ExpS wq w3.heap.size w3.heap.size k4 us (fun h => (List.range i).map (explV p K sec h)) ∧ Below w3.heap.size w3 wq) (fun t _ => nu - (intOf t).toNat)
            case atStart => exact ⟨0, _, by omega, rfl, HEX.out, HBL4.out⟩
            case round =>
              rename World => w5
              obtain ⟨i, us, hi1, rfl, hex, hbl⟩ := hrel
              have hzz5 := hbl.size
              by_cases hlt : i < nu
              · obtain ⟨A1, n1', c1, hv1, e1, e2, hcs⟩ := HSV.out
                injection hv1 with v1 v2 v3
                subst v1 v2 v3
                obtain ⟨b2, off2, hA, hTb2, hcell2⟩ := hcs (by omega)
                cases hA
                have y0 := hcell2 i hlt
                obtain ⟨x, hx⟩ : ∃ x, sec.getD i 0 = x := ⟨_, rfl⟩
                rw [hx] at y0
                have hw5 : Below w.heap.size w w5 := HWW.out.trans (hbl.mono (by omega))
                have c0 := cell_keeps hw5 y0 (HTT.out _ hTb2)
                have hpt := HPT.out w5 i hlt hw5
                have hip := fun W vx vy h U V (hh : h < k4) => HIP.out W vx vy i h U V hlt hh
                rw [hx] at hip
                have a0 := cell_keeps hbl r0 hz3
                have a1 := cell_keeps hbl r1 hz3
                have HPK := Lib.hid hpt
                have HIK := Lib.hid hip
                have HEX5 := Lib.hid hex
                have HBL5 := Lib.hid hbl
                have qi : (i : Int) < (nu : Int) := by omega
                have hz5 : w.heap.size < w5.heap.size := by omega
                clear e1 e2 hcs hcell2 y0 hpt hip hex hbl hw5 hx r2
                go_wp2_with fail
                refine HPK.out.mono ?_
                rintro e w6 ⟨vx, vy, rfl, hox, hoy, hb6, hap⟩
                have hs6 := hb6.size
                have hlx : (hsOf K).length = k := by rw [hsOf_len, HN.out]
                have hly : (colY K i).length = k := by rw [colY_len, HN.out]
                have hox1 : w6.ownsRow w5.heap.size 3 1 vx k ((hsOf K).map (Value.int .i64)) := by unfold OwnI at hox; rw [hlx] at hox; exact hox
                have hoy1 : w6.ownsRow w5.heap.size 3 1 vy k ((colY K i).map (Value.int .i64)) := by unfold OwnI at hoy; rw [hly] at hoy; exact hoy
                have HB56 := Lib.hid hb6
                have HOX := Lib.hid hox1
                have HOY := Lib.hid hoy1
                have HAP := Lib.hid hap
                clear hb6 hap hox hoy hlx hly hoy1
                go_wp2_with (at_builtin; refine wpList_append_own_at _ rfl _ _ 24 rfl w5.heap.size 3 i0 (.int .i64 0) 1 8 Tryz.underlying24 hi hz0 hz1 hz2 rfl (by decide) _ _ _ rfl (hox1.alloc _) ⟨w6.heap.size, 0, none⟩ 1 1 [.int .i64 0] rfl rfl (fun j u hj => by have := cell_one_new w6 (.int .i64 0) 3 j u hj; simpa using this) (ints_oneCell .i64 [_]) (by unfold maxLen; omega) (by omega) (by simp; omega) ?_)
                intro v7 w7 hown7 hgrow7 _ hat7
                have hg7 := grown_past hgrow7
                have hs7 := hg7.size
                have HB57 := Lib.hid (HB56.out.grown hg7 hs6 (fun q hq => (World.ownsRow.lt HOX.out q hq).1))
                have hoy7 : w7.ownsRow w5.heap.size 3 1 vy k ((colY K i).map (Value.int .i64)) := World.ownsRow.kept HOY.out hg7 (by
                  cases hq : vy.ownBlock with
                  | none => exact .inl rfl
                  | some q => exact .inr fun e => HAP.out q e.symm hq)
                have hap7 : v7.ownBlock = none ∨ v7.ownBlock ≠ vy.ownBlock := by
                  right
                  intro e
                  rcases hat7 with h | h
                  · rw [h] at e
                    cases hq : vx.ownBlock with
                    | none =>
                      rw [hq] at h
                      rcases hown7.2 with ⟨_, h9⟩ | ⟨g9, c9, cu9, h9, _⟩
                      · omega
                      · rw [h9] at h; simp [Value.ownBlock] at h
                    | some q => exact HAP.out q hq (by rw [← e, hq])
                  · rw [h] at e
                    have := (World.ownsRow.lt HOY.out _ e.symm).2
                    (try simp at this)
                    omega
                have HOWN7 := Lib.hid (show w7.ownsRow w5.heap.size 3 1 v7 (k + 1) ((hsOf K ++ [0]).map (Value.int .i64)) by rw [List.map_append]; simpa using hown7)
                have HOY7 := Lib.hid hoy7
                have HAP7 := Lib.hid hap7
                have HG7 := Lib.hid hg7
                have HAT7 := Lib.hid hat7
                clear hown7 hgrow7 hat7 hap7 hox1 hg7
                go_wp2_with (at_builtin; refine wpList_append_own_at _ rfl _ _ 24 rfl w5.heap.size 3 i0 (.int .i64 0) 1 8 Tryz.underlying24 hi hz0 hz1 hz2 rfl (by decide) _ _ _ rfl (hoy7.alloc _) ⟨w7.heap.size, 0, none⟩ 1 1 [.int .i64 x] rfl rfl (fun j u hj => by have := cell_one_new w7 (.int .i64 x) 3 j u hj; simpa using this) (ints_oneCell .i64 [_]) (by unfold maxLen; omega) (by omega) (by simp; omega) ?_)
                intro v8 w8 hown8 hgrow8 _ hat8
                have hg8 := grown_past hgrow8
                have hs8 := hg8.size
                have hx8 : w8.ownsRow w5.heap.size 3 1 v7 (k + 1) ((hsOf K ++ [0]).map (Value.int .i64)) := World.ownsRow.kept HOWN7.out hg8 HAP7.out
                have hy8 : w8.ownsRow w5.heap.size 3 1 v8 (k + 1) ((colY K i ++ [x]).map (Value.int .i64)) := by rw [List.map_append]; simpa using hown8
                obtain ⟨g7, c7, rfl⟩ : ∃ g7 c7, v7 = .slice (some ⟨g7, 0, none⟩) (k + 1) c7 := by
                  rcases hx8.2 with ⟨_, h9⟩ | ⟨g9, c9, cu9, h9, _⟩
                  · omega
                  · exact ⟨_, _, h9⟩
                obtain ⟨g8, c8, rfl⟩ : ∃ g8 c8, v8 = .slice (some ⟨g8, 0, none⟩) (k + 1) c8 := by
                  rcases hy8.2 with ⟨_, h9⟩ | ⟨g9, c9, cu9, h9, _⟩
                  · omega
                  · exact ⟨_, _, h9⟩
                have hox8 : OwnI w8 w5.heap.size (.slice (some ⟨g7, 0, none⟩) (k + 1) c7) (hsOf K ++ [0]) := by
                  have e : (hsOf K ++ [0]).length = k + 1 := by rw [List.length_append, hsOf_len, HN.out]; rfl
                  unfold OwnI
                  rw [e]; exact hx8
                have hoy8 : OwnI w8 w5.heap.size (.slice (some ⟨g8, 0, none⟩) (k + 1) c8) (colY K i ++ [x]) := by
                  have e : (colY K i ++ [x]).length = k + 1 := by rw [List.length_append, colY_len, HN.out]; rfl
                  unfold OwnI
                  rw [e]; exact hy8
                have hb58 : Below w5.heap.size w5 w8 := HB57.out.grown hg8 (by omega) (fun q hq => (World.ownsRow.lt HOY.out q hq).1)
                have HOX8 := Lib.hid hox8
                have HOY8 := Lib.hid hoy8
                have HB58 := Lib.hid hb58
                clear hown8 hgrow8 hat8 hg8 hx8 hy8 hox8 hoy8 hoy7 HOWN7 HOY7 HAP7 HG7 HAT7 HOX HOY HAP
                have e0 := cell_keeps hb58 a0 hz5
                have e1 := cell_keeps hb58 a1 hz5
                have hs58 := hb58.size
                have hex8 := HEX5.out.below hb58
                have HEX8 := Lib.hid hex8
                have HBL8 := Lib.hid (HBL5.out.trans (hb58.mono hzz5))
                have HLEN := trivial
                have tq5 : decide ((k : Int) + 1 < (need : Int)) = false := decide_eq_false (by omega)
                have tq6 : decide (k + 1 < need) = false := decide_eq_false (by omega)
                clear hb58 hex8 a0 a1 HLEN
                go_wp2_with fail
                go_loopw [15, 16, 17] (fun a b t wq => a = .slice (some ⟨g7, 0, none⟩) (k + 1) c7 ∧ b = .slice (some ⟨g8, 0, none⟩) (k + 1) c8 ∧ t = .int .i64 1 ∧ w8 = wq) (fun _ _ _ _ => 0)
                case atStart => exact ⟨rfl, rfl, rfl, rfl⟩
                case round =>
                  obtain ⟨rfl, rfl, rfl, rfl⟩ := hrel
                  go_wp2_with fail
                  go_loopw [128] (fun t wq => ∃ (h : Nat) (us2 : Nat → Value), h ≤ k4 ∧ t = .int .i64 h ∧ (∀ j, h ≤ j → us2 j = us j) ∧ ExpS wq w3.heap.size w3.heap.size k4 us2 (fun j => if j < h then (List.range (i + 1)).map (explV p K sec j) else (List.range i).map (explV p K sec j)) ∧ OwnI wq w5.heap.size (.slice (some ⟨g7, 0, none⟩) (k + 1) c7) (hsOf K ++ [0]) ∧ OwnI wq w5.heap.size (.slice (some ⟨g8, 0, none⟩) (k + 1) c8) (colY K i ++ [x]) ∧ Below w3.heap.size w3 wq ∧ w5.heap.size ≤ wq.heap.size) (fun t _ => k4 - (intOf t).toNat)
                  case atStart => exact ⟨0, us, by omega, rfl, fun _ _ => rfl, HEX8.out.congr (fun j _ => (if_neg (by omega)).symm), HOX8.out, HOY8.out, HBL8.out, by omega⟩
                  case round =>
                    rename World => w9
                    obtain ⟨h, us2, hh1, rfl, hus, hex9, hx9, hy9, hbl9, hz9⟩ := hrel
                    have hzz9 := hbl9.size
                    by_cases hlt5 : h < k4
                    · have hold8 : ∀ q, (us h).ownBlock = some q → q < w5.heap.size := fun q hq => (World.ownsRow.lt (HEX5.out.row h hlt5) q hq).2
                      have hg7 := (World.ownsRow.lt hx9 g7 rfl).1
                      have hg8 := (World.ownsRow.lt hy9 g8 rfl).1
                      have hip := HIK.out w9 _ _ h _ _ hlt5 hx9.ints (fun b hb => hb.2) hy9.ints (fun b hb => hb.2)
                      have hnx := expl_next p K sec h i
                      obtain ⟨z, hzz⟩ : ∃ z, explV p K sec h i = z := ⟨_, rfl⟩
                      rw [hzz] at hip hnx
                      have a9 := cell_keeps hbl9 r0 hz3
                      have hz10 : w.heap.size < w9.heap.size := by omega
                      have hush := hus h (Nat.le_refl _)
                      have HI := Lib.hid hip
                      have HNX := Lib.hid hnx
                      have HUS := Lib.hid hus
                      have HEX9 := Lib.hid hex9
                      have HX9 := Lib.hid hx9
                      have HY9 := Lib.hid hy9
                      have HBL9 := Lib.hid hbl9
                      have HOLD := Lib.hid hold8
                      have qh : (h : Int) < (k4 : Int) := by omega
                      have qh0 : (0 : Int) ≤ (h : Int) := by omega
                      clear hip hnx hus hex9 hx9 hy9 hbl9 hold8 hzz
                      go_wp2_with fail
                      refine HI.out.mono ?_
                      rintro e w10 ⟨rfl, hb10⟩
                      have hs10 := hb10.size
                      have hex10 := HEX9.out.below hb10
                      have ch := hex10.cell hlt5
                      have hrow : w10.ownsRow w3.heap.size 3 1 (us2 h) i (((List.range i).map (explV p K sec h)).map (Value.int .i64)) := by
                        have := hex10.row h hlt5
                        unfold OwnI at this
                        rw [if_neg (Nat.lt_irrefl h)] at this
                        rwa [List.length_map, List.length_range] at this
                      have hne := hex10.ne hlt5
                      rw [hush] at ch hrow hne
                      obtain ⟨u, hu⟩ : ∃ u, us h = u := ⟨_, rfl⟩
                      rw [hu] at ch hrow hne hush
                      have HEX10 := Lib.hid hex10
                      have HB10 := Lib.hid hb10
                      have HNE := Lib.hid hne
                      have HUSH := Lib.hid hush
                      have HU := Lib.hid hu
                      have hz11 : w3.heap.size ≤ w10.heap.size := by omega
                      clear hex10 hb10 hne hush hu
                      go_wp2_with (at_builtin; refine wpList_append_own_at _ rfl _ _ 24 rfl w3.heap.size 3 i0 (.int .i64 0) 1 8 Tryz.underlying24 hi hz0 hz1 hz2 rfl (by decide) _ _ _ rfl (hrow.alloc _) ⟨w10.heap.size, 0, none⟩ 1 1 [.int .i64 z] rfl rfl (fun j u hj => by have := cell_one_new w10 (.int .i64 z) 3 j u hj; simpa using this) (ints_oneCell .i64 [_]) (by unfold maxLen; omega) (by omega) (by simp; omega) ?_)
                      intro v11 w11 hown11 hgrow11 _ hat11
                      have hg11 := grown_past hgrow11
                      have hs11 := hg11.size
                      have hrow11 : OwnI w11 w3.heap.size v11 ((List.range i).map (explV p K sec h) ++ [z]) := by
                        unfold OwnI
                        rw [List.map_append, show ((List.range i).map (explV p K sec h) ++ [z]).length = i + 1 by simp]
                        simpa using hown11
                      have hsr : w11.ownsRow w3.heap.size 49 2 (.slice (some ⟨w3.heap.size, 0, none⟩) k4 k4) k4 (shC (hoL k4 k4) us2) := World.ownsRow.kept HEX10.out.own hg11 (by
                        rcases HNE.out with e | e
                        · right; rw [e]; simp [Value.ownBlock]
                        · exact .inr fun e' => e (by rw [← e']; rfl))
                      have c11 := World.ownsRow.cellAt hsr (h * 2 + 1) (by omega)
                      rw [hoL_cells k4 k4 us2 _ (by omega), if_neg (by omega), show (h * 2 + 1) / 2 = h by omega, HUSH.out] at c11
                      have f11 := World.ownsRow.frozenAt hsr (h * 2 + 1)
                      have hat : ∀ q, v11.ownBlock = some q → (us2 h).ownBlock = some q ∨ w10.heap.size ≤ q := fun q hq => by
                        rcases hat11 with e | e
                        · rw [HUSH.out, ← e]; exact .inl hq
                        · rw [hq] at e
                          right
                          have e' : q = w10.heap.size + 1 := Option.some.inj (by simpa using e)
                          omega
                      have hxk : ∀ (gg cc : Nat) (Z : List Int), w5.heap.size ≤ gg → OwnI w9 w5.heap.size (.slice (some ⟨gg, 0, none⟩) (k + 1) cc) Z → OwnI (w11.setCell ⟨w3.heap.size, h * 2 + 1, none⟩ v11) w5.heap.size (.slice (some ⟨gg, 0, none⟩) (k + 1) cc) Z := fun gg cc Z hgg ho9 => by
                        have o10 := ho9.below HB10.out
                        have o11 : OwnI w11 w5.heap.size (.slice (some ⟨gg, 0, none⟩) (k + 1) cc) Z := o10.kept hg11 (by
                          right
                          intro e
                          have := HOLD.out gg (by rw [HU.out, ← e]; rfl)
                          omega)
                        exact o11.kept (World.ownsRow.stored hsr (h * 2 + 1) v11).2 (by
                          have := own_ne o11 hsr (by decide)
                          simpa [Value.ownBlock] using this)
                      have hx12 := hxk g7 c7 _ hg7 HX9.out
                      have hy12 := hxk g8 c8 _ hg8 HY9.out
                      have hul : ∀ q, (u : Value).ownBlock = some q → w3.heap.size ≤ q := fun q hq => (World.ownsRow.lt hrow q hq).1
                      have hb12 : Below w3.heap.size w3 (w11.setCell ⟨w3.heap.size, h * 2 + 1, none⟩ v11) := ((HBL9.out.trans (HB10.out.mono (by omega))).grown hg11 hz11 hul).setCell (p := ⟨w3.heap.size, h * 2 + 1, none⟩) (Nat.le_refl _) v11
                      have hex12 := (HEX10.out.app hlt5 (x := z) (by rw [if_neg (Nat.lt_irrefl h)]; exact hrow11) (by rw [HUSH.out]; exact hg11) hat).congr (rows' := fun j => if j < h + 1 then (List.range (i + 1)).map (explV p K sec j) else (List.range i).map (explV p K sec j)) (fun j hj => by
                        by_cases e : j = h
                        · subst e
                          simp only [if_true, if_neg (Nat.lt_irrefl j), if_pos (Nat.lt_succ_self j)]
                          exact HNX.out.symm
                        · by_cases e2 : j < h
                          · rw [if_neg e, if_pos e2, if_pos (by omega)]
                          · rw [if_neg e, if_neg e2, if_neg (by omega)])
                      obtain ⟨g11, d11, rfl⟩ : ∃ g11 d11, v11 = .slice (some ⟨g11, 0, none⟩) (i + 1) d11 := by
                        rcases hown11.2 with ⟨_, h9⟩ | ⟨g9, c9, cu9, h9, _⟩
                        · omega
                        · exact ⟨_, _, h9⟩
                      have HEX12 := Lib.hid hex12
                      have HX12 := Lib.hid hx12
                      have HY12 := Lib.hid hy12
                      have HB12 := Lib.hid hb12
                      have hs12 : w5.heap.size ≤ (w11.setCell ⟨w3.heap.size, h * 2 + 1, none⟩ (.slice (some ⟨g11, 0, none⟩) (i + 1) d11)).heap.size := by simp; omega
                      have HS12 := Lib.hid hs12
                      clear hown11 hgrow11 hat11 hg11 hrow11 hsr hat hxk hx12 hy12 hul hb12 hex12 hrow hs12 hg7 hg8
                      go_wp2_with fail
                      go_roundw
                      case measure => simp [intOf]; omega
                      case rel => first | exact ⟨h + 1, _, by omega, by go_num, (fun j hj => by rw [if_neg (by omega)]; exact HUS.out j (by omega)), HEX12.out, HX12.out, HY12.out, HB12.out, HS12.out⟩ | ((repeat apply Exists.intro); exact ⟨⟨h + 1, _, by omega, by go_num, (fun j hj => by rw [if_neg (by omega)]; exact HUS.out j (by omega)), HEX12.out, HX12.out, HY12.out, HB12.out, HS12.out⟩, rfl⟩)
                    · have hkk5 : h = k4 := by omega
                      have hex10 := hex9.congr (rows' := fun j => (List.range (i + 1)).map (explV p K sec j)) (fun j hj => if_pos (by omega))
                      have HEX10 := Lib.hid hex10
                      have HBL9 := Lib.hid hbl9
                      subst hkk5
                      clear hus hex9 hx9 hy9 hbl9 hex10
                      go_wp2_with fail
                      go_roundw
                      case measure => simp [intOf]; omega
                      case rel => first | exact ⟨i + 1, us2, by omega, by go_num, HEX10.out, HBL9.out⟩ | ((repeat apply Exists.intro); exact ⟨⟨i + 1, us2, by omega, by go_num, HEX10.out, HBL9.out⟩, rfl⟩)
              · have hkk : i = nu := by omega
                have hfin : ShAt w5 (fun b => w.heap.size ≤ b ∧ b < w5.heap.size) (.slice (some ⟨w3.heap.size, 0, none⟩) k4 k4) (explL p k4 K sec) := by
                  refine (ExpS.shares (hex.congr fun j _ => ?_)).mono fun b hb => ⟨by have := hb.1; omega, hb.2⟩
                  rw [hkk, HSL.out]
                have HF := Lib.hid hfin
                have HBF := Lib.hid (HWW.out.trans (hbl.mono (by omega)))
                subst hkk
                clear hfin hex hbl
                go_wp2_with fail
                go_ret2
                exact ⟨_, rfl, HF.out, HBF.out⟩
  · obtain ⟨A1, n1', c1, hv1, e1, e2, hcs⟩ := HV.out
    injection hv1 with v1 v2 v3
    subst v1 v2 v3
    obtain ⟨b, off, rfl, hSb, hcell⟩ := hcs (by omega)
    obtain ⟨u0, _, m1, hu0⟩ := hcell 0 (by omega)
    rw [Nat.zero_mul, Nat.add_zero] at m1
    obtain ⟨Av, nv, cv, rfl, g1, g2, g3⟩ := id hu0
    have hl0 := HL0.out q0
    have hnv : nu = nv := by omega
    have hbs := HSS.out b hSb
    subst hnv
    have q0n : (0 : Int) < (n : Int) := by omega
    have tz1 : decide ((0 : Int) < (n : Int)) = true := decide_eq_true (by omega)
    have tz2 : decide (0 < n) = true := decide_eq_true (by omega)
    have M1 := Lib.hid m1
    clear e1 e2 hcs hcell hu0 g1 g2 g3 hl0 m1 HL0
    go_enter Tryz.func29, Tryz.ntmps29
    go_wp2_with fail
    refine (HVL.out _).mono ?_
    rintro e w1 ⟨rfl, hb1⟩
    have kp1 := KP.out.below hb1 KP.out.lt
    have hb := HB0.out.trans (hb1.mono HB0.out.size)
    have s0 : w1.cell? ⟨w.heap.size, 0, none⟩ = some (.int .i64 (p : Int)) := kp1.cell 0
    have s1 : w1.cell? ⟨w.heap.size, 1, none⟩ = some (.int .i64 (need : Int)) := kp1.cell 1
    have s2 : w1.cell? ⟨w.heap.size, 2, none⟩ = some (.int .i64 (hold : Int)) := kp1.cell 2
    have hz := kp1.lt
    have HB1 := Lib.hid hb
    have KP1 := Lib.hid kp1
    clear hb1 kp1 hb
    go_wp2_with fail
    refine (HGD.out _ HB1.out).mono ?_
    rintro e w2 ⟨rfl, hb2⟩
    have hb := HB1.out.trans (hb2.mono HB1.out.size)
    have kp2 := KP1.out.below hb2 hz
    have s0' : w2.cell? ⟨w.heap.size, 0, none⟩ = some (.int .i64 (p : Int)) := kp2.cell 0
    have s1' : w2.cell? ⟨w.heap.size, 1, none⟩ = some (.int .i64 (need : Int)) := kp2.cell 1
    have s2' : w2.cell? ⟨w.heap.size, 2, none⟩ = some (.int .i64 (hold : Int)) := kp2.cell 2
    have m2 := (hb.cell (p := ⟨b, off + 1, none⟩) hbs).trans M1.out
    have hz2' := kp2.lt
    have HB2 := Lib.hid hb
    have KP2 := Lib.hid kp2
    clear hb2 kp2 hb s0 s1 s2
    go_wp2_with fail
    refine (HEL.out _ HB2.out).mono ?_
    rintro e w' ⟨rfl, rfl⟩
    go_wp2_with fail
    go_loopw [65] (fun t wr => ∃ (k : Nat) (D : DataW Unit), k ≤ n ∧ t = .int .i64 k ∧ wr.ownsMap Tryz.prog 3 (plainElem Tryz.prog 4) w2.heap.size k D ∧ Below w2.heap.size w2 wr ∧ w2.heap.size < wr.heap.size) (fun t _ => n - (intOf t).toNat)
    case atStart => exact ⟨0, .map [], Nat.zero_le _, rfl, World.ownsMap_made _ _ _ _, (Below.refl _ _).alloc (Nat.le_refl _) _, by simp⟩
    case round =>
      rename World => w3
      obtain ⟨k, D, hk, rfl, hown, hbl, hzz⟩ := hrel
      have hww := HB2.out.trans (hbl.mono (Nat.le_of_lt hz2'))
      have HBL := Lib.hid hbl
      have HOWN := Lib.hid hown
      have HWW := Lib.hid hww
      clear hbl hown hww
      by_cases hlt : k < n
      · obtain ⟨A1, n1', c1, hv1, e1, e2, hcs⟩ := HV.out
        injection hv1 with v1 v2 v3
        subst v1 v2 v3
        obtain ⟨b2, off2, hA, hSb2, hcell2⟩ := hcs (by omega)
        cases hA
        obtain ⟨u2, y0, y1, hyu⟩ := hcell2 k hlt
        obtain ⟨A2, ny, cy, rfl, -, -, -⟩ := id hyu
        have hho := HO.out.holder k (by have := HN.out; omega)
        have r0 := cell_keeps HWW.out y0 (HSS.out _ hSb2)
        have r1 := cell_keeps HWW.out y1 (HSS.out _ hSb2)
        obtain ⟨G, hG⟩ : ∃ G, (shAt K k).1 = G := ⟨_, rfl⟩
        rw [hG] at r0 hho
        have hown1 := HOWN.out.alloc (.cells #[.int .i64 G, .slice A2 ny cy] 49)
        have HB4 := Lib.hid (HBL.out.alloc (Nat.le_of_lt hzz) (.cells #[.int .i64 G, .slice A2 ny cy] 49))
        have qk : (k : Int) < (n : Int) := by omega
        clear e1 e2 hcs hcell2 y0 y1 hyu hG
        go_wp2_with (at_mapUpdate; refine wpList_mapUpdate_own _ rfl _ _ _ 103 rfl 3 4 lawI Tryz.underlying103 (plainElem (H := Unit) Tryz.prog 4) w2.heap.size k _ rfl hown1 (by unfold maxLen; omega) _ _ _ rfl rfl (keyOf_int_mk Tryz.underlying3 (WalkArith.wf_i64 (by omega))) _ [] (plainElem_bool Tryz.underlying4 true) ?_)
        intro w5 hown5 hgrow5
        have hb5 := HB4.out.grown hgrow5 HB4.out.size (fun j hj => by cases hj; exact Nat.le_refl _)
        have hs5 := hgrow5.size
        have hs6 : w3.heap.size ≤ w5.heap.size := by simp at hs5; omega
        have HO5 := Lib.hid hown5
        have HB5 := Lib.hid hb5
        clear hown5 hgrow5 hb5 hown1 hs5
        go_wp2_with fail
        go_roundw
        case measure => simp [intOf]; omega
        case rel => exact ⟨k + 1, _, by omega, by go_num, HO5.out, HB5.out, by omega⟩
      · have hkk : k = n := by omega
        subst hkk
        have r0 := cell_keeps HBL.out s0' hz2'
        have r1 := cell_keeps HBL.out s1' hz2'
        have r2 := cell_keeps HBL.out s2' hz2'
        have hz3 : w.heap.size < w3.heap.size := by omega
        have HMK := Lib.hid (hoL_made hold)
        clear HOWN
        go_wp2_with fail
        go_loopw [78] (fun t wq => ∃ k : Nat, k ≤ hold ∧ t = .int .i64 k ∧ wq.ownsRow w3.heap.size 49 2 (.slice (some ⟨w3.heap.size, 0, none⟩) hold hold) hold (shC (hoL hold k) fun _ => .slice none 0 0) ∧ Below w3.heap.size w3 wq) (fun t _ => hold - (intOf t).toNat)
        case atStart =>
          refine ⟨0, by omega, rfl, ?_, (Below.refl _ _).alloc (Nat.le_refl _) _⟩
          rw [← HMK.out]
          exact World.ownsRow_lit w3 _ hold (Nat.le_refl _) (by simp only [maxLen]; omega) (size_madeCells _ _)
        case round =>
          rename World => w4
          obtain ⟨k4, hk4, rfl, hown, hbl⟩ := hrel
          have hzz4 := hbl.size
          by_cases hlt : k4 < hold
          · have c4 := World.ownsRow.cellAt hown (k4 * 2) (by omega)
            rw [hoL_cells hold k4 _ (k4 * 2) (by omega), if_pos (by omega), if_neg (by omega)] at c4
            have f4 := World.ownsRow.frozenAt hown (k4 * 2)
            have hst := (World.ownsRow.stored hown (k4 * 2) (.int .i64 ((k4 : Int) + 1))).1
            rw [Nat.mul_comm k4 2, hoL_next hold k4 _ hlt, Nat.mul_comm 2 k4] at hst
            have HST := Lib.hid hst
            have HB4 := Lib.hid (hbl.setCell (p := ⟨w3.heap.size, k4 * 2, none⟩) (Nat.le_refl _) (.int .i64 ((k4 : Int) + 1)))
            have qk : (k4 : Int) < (hold : Int) := by omega
            have qk0 : (0 : Int) ≤ (k4 : Int) := by omega
            clear hst hown hbl
            go_wp2_with fail
            go_roundw
            case measure => simp [intOf]; omega
            case rel => exact ⟨k4 + 1, by omega, by go_num, HST.out, HB4.out⟩
          · have hkk : k4 = hold := by omega
            subst hkk
            have hex : ExpS w4 w3.heap.size w3.heap.size k4 (fun _ => .slice none 0 0) fun _ => [] := ⟨hown, fun _ _ => OwnI.nil _ _, fun _ _ _ _ _ _ h => by simp [Value.ownBlock] at h⟩
            have HEX := Lib.hid hex
            have HBL4 := Lib.hid hbl
            clear hex hown hbl
            go_wp2_with fail
            go_loopw [90] (fun t wq => ∃ (i : Nat) (us : Nat → Value), i ≤ nu ∧ t = .int .i64 i ∧ ExpS wq w3.heap.size w3.heap.size k4 us (fun h => (List.range i).map (explV p K sec h)) ∧ Below w3.heap.size w3 wq) (fun t _ => nu - (intOf t).toNat)
            case atStart => exact ⟨0, _, by omega, rfl, HEX.out, HBL4.out⟩
            case round =>
              rename World => w5
              obtain ⟨i, us, hi1, rfl, hex, hbl⟩ := hrel
              have hzz5 := hbl.size
              by_cases hlt : i < nu
              · obtain ⟨A1, n1', c1, hv1, e1, e2, hcs⟩ := HSV.out
                injection hv1 with v1 v2 v3
                subst v1 v2 v3
                obtain ⟨b2, off2, hA, hTb2, hcell2⟩ := hcs (by omega)
                cases hA
                have y0 := hcell2 i hlt
                obtain ⟨x, hx⟩ : ∃ x, sec.getD i 0 = x := ⟨_, rfl⟩
                rw [hx] at y0
                have hw5 : Below w.heap.size w w5 := HWW.out.trans (hbl.mono (by omega))
                have c0 := cell_keeps hw5 y0 (HTT.out _ hTb2)
                have hpt := HPT.out w5 i hlt hw5
                have hip := fun W vx vy h U V (hh : h < k4) => HIP.out W vx vy i h U V hlt hh
                rw [hx] at hip
                have a0 := cell_keeps hbl r0 hz3
                have a1 := cell_keeps hbl r1 hz3
                have HPK := Lib.hid hpt
                have HIK := Lib.hid hip
                have HEX5 := Lib.hid hex
                have HBL5 := Lib.hid hbl
                have qi : (i : Int) < (nu : Int) := by omega
                have hz5 : w.heap.size < w5.heap.size := by omega
                clear e1 e2 hcs hcell2 y0 hpt hip hex hbl hw5 hx r2
                go_wp2_with fail
                refine HPK.out.mono ?_
                rintro e w6 ⟨vx, vy, rfl, hox, hoy, hb6, hap⟩
                have hs6 := hb6.size
                have hlx : (hsOf K).length = k := by rw [hsOf_len, HN.out]
                have hly : (colY K i).length = k := by rw [colY_len, HN.out]
                have hox1 : w6.ownsRow w5.heap.size 3 1 vx k ((hsOf K).map (Value.int .i64)) := by unfold OwnI at hox; rw [hlx] at hox; exact hox
                have hoy1 : w6.ownsRow w5.heap.size 3 1 vy k ((colY K i).map (Value.int .i64)) := by unfold OwnI at hoy; rw [hly] at hoy; exact hoy
                have HB56 := Lib.hid hb6
                have HOX := Lib.hid hox1
                have HOY := Lib.hid hoy1
                have HAP := Lib.hid hap
                clear hb6 hap hox hoy hlx hly hoy1
                go_wp2_with (at_builtin; refine wpList_append_own_at _ rfl _ _ 24 rfl w5.heap.size 3 i0 (.int .i64 0) 1 8 Tryz.underlying24 hi hz0 hz1 hz2 rfl (by decide) _ _ _ rfl (hox1.alloc _) ⟨w6.heap.size, 0, none⟩ 1 1 [.int .i64 0] rfl rfl (fun j u hj => by have := cell_one_new w6 (.int .i64 0) 3 j u hj; simpa using this) (ints_oneCell .i64 [_]) (by unfold maxLen; omega) (by omega) (by simp; omega) ?_)
                intro v7 w7 hown7 hgrow7 _ hat7
                have hg7 := grown_past hgrow7
                have hs7 := hg7.size
                have HB57 := Lib.hid (HB56.out.grown hg7 hs6 (fun q hq => (World.ownsRow.lt HOX.out q hq).1))
                have hoy7 : w7.ownsRow w5.heap.size 3 1 vy k ((colY K i).map (Value.int .i64)) := World.ownsRow.kept HOY.out hg7 (by
                  cases hq : vy.ownBlock with
                  | none => exact .inl rfl
                  | some q => exact .inr fun e => HAP.out q e.symm hq)
                have hap7 : v7.ownBlock = none ∨ v7.ownBlock ≠ vy.ownBlock := by
                  right
                  intro e
                  rcases hat7 with h | h
                  · rw [h] at e
                    cases hq : vx.ownBlock with
                    | none =>
                      rw [hq] at h
                      rcases hown7.2 with ⟨_, h9⟩ | ⟨g9, c9, cu9, h9, _⟩
                      · omega
                      · rw [h9] at h; simp [Value.ownBlock] at h
                    | some q => exact HAP.out q hq (by rw [← e, hq])
                  · rw [h] at e
                    have := (World.ownsRow.lt HOY.out _ e.symm).2
                    (try simp at this)
                    omega
                have HOWN7 := Lib.hid (show w7.ownsRow w5.heap.size 3 1 v7 (k + 1) ((hsOf K ++ [0]).map (Value.int .i64)) by rw [List.map_append]; simpa using hown7)
                have HOY7 := Lib.hid hoy7
                have HAP7 := Lib.hid hap7
                have HG7 := Lib.hid hg7
                have HAT7 := Lib.hid hat7
                clear hown7 hgrow7 hat7 hap7 hox1 hg7
                go_wp2_with (at_builtin; refine wpList_append_own_at _ rfl _ _ 24 rfl w5.heap.size 3 i0 (.int .i64 0) 1 8 Tryz.underlying24 hi hz0 hz1 hz2 rfl (by decide) _ _ _ rfl (hoy7.alloc _) ⟨w7.heap.size, 0, none⟩ 1 1 [.int .i64 x] rfl rfl (fun j u hj => by have := cell_one_new w7 (.int .i64 x) 3 j u hj; simpa using this) (ints_oneCell .i64 [_]) (by unfold maxLen; omega) (by omega) (by simp; omega) ?_)
                intro v8 w8 hown8 hgrow8 _ hat8
                have hg8 := grown_past hgrow8
                have hs8 := hg8.size
                have hx8 : w8.ownsRow w5.heap.size 3 1 v7 (k + 1) ((hsOf K ++ [0]).map (Value.int .i64)) := World.ownsRow.kept HOWN7.out hg8 HAP7.out
                have hy8 : w8.ownsRow w5.heap.size 3 1 v8 (k + 1) ((colY K i ++ [x]).map (Value.int .i64)) := by rw [List.map_append]; simpa using hown8
                obtain ⟨g7, c7, rfl⟩ : ∃ g7 c7, v7 = .slice (some ⟨g7, 0, none⟩) (k + 1) c7 := by
                  rcases hx8.2 with ⟨_, h9⟩ | ⟨g9, c9, cu9, h9, _⟩
                  · omega
                  · exact ⟨_, _, h9⟩
                obtain ⟨g8, c8, rfl⟩ : ∃ g8 c8, v8 = .slice (some ⟨g8, 0, none⟩) (k + 1) c8 := by
                  rcases hy8.2 with ⟨_, h9⟩ | ⟨g9, c9, cu9, h9, _⟩
                  · omega
                  · exact ⟨_, _, h9⟩
                have hox8 : OwnI w8 w5.heap.size (.slice (some ⟨g7, 0, none⟩) (k + 1) c7) (hsOf K ++ [0]) := by
                  have e : (hsOf K ++ [0]).length = k + 1 := by rw [List.length_append, hsOf_len, HN.out]; rfl
                  unfold OwnI
                  rw [e]; exact hx8
                have hoy8 : OwnI w8 w5.heap.size (.slice (some ⟨g8, 0, none⟩) (k + 1) c8) (colY K i ++ [x]) := by
                  have e : (colY K i ++ [x]).length = k + 1 := by rw [List.length_append, colY_len, HN.out]; rfl
                  unfold OwnI
                  rw [e]; exact hy8
                have hb58 : Below w5.heap.size w5 w8 := HB57.out.grown hg8 (by omega) (fun q hq => (World.ownsRow.lt HOY.out q hq).1)
                have HOX8 := Lib.hid hox8
                have HOY8 := Lib.hid hoy8
                have HB58 := Lib.hid hb58
                clear hown8 hgrow8 hat8 hg8 hx8 hy8 hox8 hoy8 hoy7 HOWN7 HOY7 HAP7 HG7 HAT7 HOX HOY HAP
                have e0 := cell_keeps hb58 a0 hz5
                have e1 := cell_keeps hb58 a1 hz5
                have hs58 := hb58.size
                have hex8 := HEX5.out.below hb58
                have HEX8 := Lib.hid hex8
                have HBL8 := Lib.hid (HBL5.out.trans (hb58.mono hzz5))
                have HLEN := trivial
                have tq5 : decide ((k : Int) + 1 < (need : Int)) = false := decide_eq_false (by omega)
                have tq6 : decide (k + 1 < need) = false := decide_eq_false (by omega)
                clear hb58 hex8 a0 a1 HLEN
                go_wp2_with fail
                go_loopw [15, 16, 17] (fun a b t wq => a = .slice (some ⟨g7, 0, none⟩) (k + 1) c7 ∧ b = .slice (some ⟨g8, 0, none⟩) (k + 1) c8 ∧ t = .int .i64 1 ∧ w8 = wq) (fun _ _ _ _ => 0)
                case atStart => exact ⟨rfl, rfl, rfl, rfl⟩
                case round =>
                  obtain ⟨rfl, rfl, rfl, rfl⟩ := hrel
                  go_wp2_with fail
                  go_loopw [128] (fun t wq => ∃ (h : Nat) (us2 : Nat → Value), h ≤ k4 ∧ t = .int .i64 h ∧ (∀ j, h ≤ j → us2 j = us j) ∧ ExpS wq w3.heap.size w3.heap.size k4 us2 (fun j => if j < h then (List.range (i + 1)).map (explV p K sec j) else (List.range i).map (explV p K sec j)) ∧ OwnI wq w5.heap.size (.slice (some ⟨g7, 0, none⟩) (k + 1) c7) (hsOf K ++ [0]) ∧ OwnI wq w5.heap.size (.slice (some ⟨g8, 0, none⟩) (k + 1) c8) (colY K i ++ [x]) ∧ Below w3.heap.size w3 wq ∧ w5.heap.size ≤ wq.heap.size) (fun t _ => k4 - (intOf t).toNat)
                  case atStart => exact ⟨0, us, by omega, rfl, fun _ _ => rfl, HEX8.out.congr (fun j _ => (if_neg (by omega)).symm), HOX8.out, HOY8.out, HBL8.out, by omega⟩
                  case round =>
                    rename World => w9
                    obtain ⟨h, us2, hh1, rfl, hus, hex9, hx9, hy9, hbl9, hz9⟩ := hrel
                    have hzz9 := hbl9.size
                    by_cases hlt5 : h < k4
                    · have hold8 : ∀ q, (us h).ownBlock = some q → q < w5.heap.size := fun q hq => (World.ownsRow.lt (HEX5.out.row h hlt5) q hq).2
                      have hg7 := (World.ownsRow.lt hx9 g7 rfl).1
                      have hg8 := (World.ownsRow.lt hy9 g8 rfl).1
                      have hip := HIK.out w9 _ _ h _ _ hlt5 hx9.ints (fun b hb => hb.2) hy9.ints (fun b hb => hb.2)
                      have hnx := expl_next p K sec h i
                      obtain ⟨z, hzz⟩ : ∃ z, explV p K sec h i = z := ⟨_, rfl⟩
                      rw [hzz] at hip hnx
                      have a9 := cell_keeps hbl9 r0 hz3
                      have hz10 : w.heap.size < w9.heap.size := by omega
                      have hush := hus h (Nat.le_refl _)
                      have HI := Lib.hid hip
                      have HNX := Lib.hid hnx
                      have HUS := Lib.hid hus
                      have HEX9 := Lib.hid hex9
                      have HX9 := Lib.hid hx9
                      have HY9 := Lib.hid hy9
                      have HBL9 := Lib.hid hbl9
                      have HOLD := Lib.hid hold8
                      have qh : (h : Int) < (k4 : Int) := by omega
                      have qh0 : (0 : Int) ≤ (h : Int) := by omega
                      clear hip hnx hus hex9 hx9 hy9 hbl9 hold8 hzz
                      go_wp2_with fail
                      refine HI.out.mono ?_
                      rintro e w10 ⟨rfl, hb10⟩
                      have hs10 := hb10.size
                      have hex10 := HEX9.out.below hb10
                      have ch := hex10.cell hlt5
                      have hrow : w10.ownsRow w3.heap.size 3 1 (us2 h) i (((List.range i).map (explV p K sec h)).map (Value.int .i64)) := by
                        have := hex10.row h hlt5
                        unfold OwnI at this
                        rw [if_neg (Nat.lt_irrefl h)] at this
                        rwa [List.length_map, List.length_range] at this
                      have hne := hex10.ne hlt5
                      rw [hush] at ch hrow hne
                      obtain ⟨u, hu⟩ : ∃ u, us h = u := ⟨_, rfl⟩
                      rw [hu] at ch hrow hne hush
                      have HEX10 := Lib.hid hex10
                      have HB10 := Lib.hid hb10
                      have HNE := Lib.hid hne
                      have HUSH := Lib.hid hush
                      have HU := Lib.hid hu
                      have hz11 : w3.heap.size ≤ w10.heap.size := by omega
                      clear hex10 hb10 hne hush hu
                      go_wp2_with (at_builtin; refine wpList_append_own_at _ rfl _ _ 24 rfl w3.heap.size 3 i0 (.int .i64 0) 1 8 Tryz.underlying24 hi hz0 hz1 hz2 rfl (by decide) _ _ _ rfl (hrow.alloc _) ⟨w10.heap.size, 0, none⟩ 1 1 [.int .i64 z] rfl rfl (fun j u hj => by have := cell_one_new w10 (.int .i64 z) 3 j u hj; simpa using this) (ints_oneCell .i64 [_]) (by unfold maxLen; omega) (by omega) (by simp; omega) ?_)
                      intro v11 w11 hown11 hgrow11 _ hat11
                      have hg11 := grown_past hgrow11
                      have hs11 := hg11.size
                      have hrow11 : OwnI w11 w3.heap.size v11 ((List.range i).map (explV p K sec h) ++ [z]) := by
                        unfold OwnI
                        rw [List.map_append, show ((List.range i).map (explV p K sec h) ++ [z]).length = i + 1 by simp]
                        simpa using hown11
                      have hsr : w11.ownsRow w3.heap.size 49 2 (.slice (some ⟨w3.heap.size, 0, none⟩) k4 k4) k4 (shC (hoL k4 k4) us2) := World.ownsRow.kept HEX10.out.own hg11 (by
                        rcases HNE.out with e | e
                        · right; rw [e]; simp [Value.ownBlock]
                        · exact .inr fun e' => e (by rw [← e']; rfl))
                      have c11 := World.ownsRow.cellAt hsr (h * 2 + 1) (by omega)
                      rw [hoL_cells k4 k4 us2 _ (by omega), if_neg (by omega), show (h * 2 + 1) / 2 = h by omega, HUSH.out] at c11
                      have f11 := World.ownsRow.frozenAt hsr (h * 2 + 1)
                      have hat : ∀ q, v11.ownBlock = some q → (us2 h).ownBlock = some q ∨ w10.heap.size ≤ q := fun q hq => by
                        rcases hat11 with e | e
                        · rw [HUSH.out, ← e]; exact .inl hq
                        · rw [hq] at e
                          right
                          have e' : q = w10.heap.size + 1 := Option.some.inj (by simpa using e)
                          omega
                      have hxk : ∀ (gg cc : Nat) (Z : List Int), w5.heap.size ≤ gg → OwnI w9 w5.heap.size (.slice (some ⟨gg, 0, none⟩) (k + 1) cc) Z → OwnI (w11.setCell ⟨w3.heap.size, h * 2 + 1, none⟩ v11) w5.heap.size (.slice (some ⟨gg, 0, none⟩) (k + 1) cc) Z := fun gg cc Z hgg ho9 => by
                        have o10 := ho9.below HB10.out
                        have o11 : OwnI w11 w5.heap.size (.slice (some ⟨gg, 0, none⟩) (k + 1) cc) Z := o10.kept hg11 (by
                          right
                          intro e
                          have := HOLD.out gg (by rw [HU.out, ← e]; rfl)
                          omega)
                        exact o11.kept (World.ownsRow.stored hsr (h * 2 + 1) v11).2 (by
                          have := own_ne o11 hsr (by decide)
                          simpa [Value.ownBlock] using this)
                      have hx12 := hxk g7 c7 _ hg7 HX9.out
                      have hy12 := hxk g8 c8 _ hg8 HY9.out
                      have hul : ∀ q, (u : Value).ownBlock = some q → w3.heap.size ≤ q := fun q hq => (World.ownsRow.lt hrow q hq).1
                      have hb12 : Below w3.heap.size w3 (w11.setCell ⟨w3.heap.size, h * 2 + 1, none⟩ v11) := ((HBL9.out.trans (HB10.out.mono (by omega))).grown hg11 hz11 hul).setCell (p := ⟨w3.heap.size, h * 2 + 1, none⟩) (Nat.le_refl _) v11
                      have hex12 := (HEX10.out.app hlt5 (x := z) (by rw [if_neg (Nat.lt_irrefl h)]; exact hrow11) (by rw [HUSH.out]; exact hg11) hat).congr (rows' := fun j => if j < h + 1 then (List.range (i + 1)).map (explV p K sec j) else (List.range i).map (explV p K sec j)) (fun j hj => by
                        by_cases e : j = h
                        · subst e
                          simp only [if_true, if_neg (Nat.lt_irrefl j), if_pos (Nat.lt_succ_self j)]
                          exact HNX.out.symm
                        · by_cases e2 : j < h
                          · rw [if_neg e, if_pos e2, if_pos (by omega)]
                          · rw [if_neg e, if_neg e2, if_neg (by omega)])
                      obtain ⟨g11, d11, rfl⟩ : ∃ g11 d11, v11 = .slice (some ⟨g11, 0, none⟩) (i + 1) d11 := by
                        rcases hown11.2 with ⟨_, h9⟩ | ⟨g9, c9, cu9, h9, _⟩
                        · omega
                        · exact ⟨_, _, h9⟩
                      have HEX12 := Lib.hid hex12
                      have HX12 := Lib.hid hx12
                      have HY12 := Lib.hid hy12
                      have HB12 := Lib.hid hb12
                      have hs12 : w5.heap.size ≤ (w11.setCell ⟨w3.heap.size, h * 2 + 1, none⟩ (.slice (some ⟨g11, 0, none⟩) (i + 1) d11)).heap.size := by simp; omega
                      have HS12 := Lib.hid hs12
                      clear hown11 hgrow11 hat11 hg11 hrow11 hsr hat hxk hx12 hy12 hul hb12 hex12 hrow hs12 hg7 hg8
                      go_wp2_with fail
                      go_roundw
                      case measure => simp [intOf]; omega
                      case rel => first | exact ⟨h + 1, _, by omega, by go_num, (fun j hj => by rw [if_neg (by omega)]; exact HUS.out j (by omega)), HEX12.out, HX12.out, HY12.out, HB12.out, HS12.out⟩ | ((repeat apply Exists.intro); exact ⟨⟨h + 1, _, by omega, by go_num, (fun j hj => by rw [if_neg (by omega)]; exact HUS.out j (by omega)), HEX12.out, HX12.out, HY12.out, HB12.out, HS12.out⟩, rfl⟩)
                    · have hkk5 : h = k4 := by omega
                      have hex10 := hex9.congr (rows' := fun j => (List.range (i + 1)).map (explV p K sec j)) (fun j hj => if_pos (by omega))
                      have HEX10 := Lib.hid hex10
                      have HBL9 := Lib.hid hbl9
                      subst hkk5
                      clear hus hex9 hx9 hy9 hbl9 hex10
                      go_wp2_with fail
                      go_roundw
                      case measure => simp [intOf]; omega
                      case rel => first | exact ⟨i + 1, us2, by omega, by go_num, HEX10.out, HBL9.out⟩ | ((repeat apply Exists.intro); exact ⟨⟨i + 1, us2, by omega, by go_num, HEX10.out, HBL9.out⟩, rfl⟩)
              · have hkk : i = nu := by omega
                have hfin : ShAt w5 (fun b => w.heap.size ≤ b ∧ b < w5.heap.size) (.slice (some ⟨w3.heap.size, 0, none⟩) k4 k4) (explL p k4 K sec) := by
                  refine (ExpS.shares (hex.congr fun j _ => ?_)).mono fun b hb => ⟨by have := hb.1; omega, hb.2⟩
                  rw [hkk, HSL.out]
                have HF := Lib.hid hfin
                have HBF := Lib.hid (HWW.out.trans (hbl.mono (by omega)))
                subst hkk
                clear hfin hex hbl
                go_wp2_with fail
                go_ret2
                exact ⟨_, rfl, HF.out, HBF.out⟩
end Go.Proofs.YtjfphobfikadlaaGreatDoor
