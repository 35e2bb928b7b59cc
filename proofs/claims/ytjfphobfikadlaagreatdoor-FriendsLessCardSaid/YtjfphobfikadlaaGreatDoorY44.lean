/- Contracts: the secret that shares give: the reference. Plain: shares whose values grow, each in an array of its own; what the reference's explaining shares are. Plain: the shares that explain a secret: good, they hold the known ones, and give the secret. -/
import Derived.Test.YtjfphobfikadlaaGreatDoorY39
import Derived.Test.YtjfphobfikadlaaGreatDoorY42
import Derived.Test.YtjfphobfikadlaaGreatDoorY43
import Derived.Test.YtjfphobfikadlaaGreatDoorY34
set_option linter.unusedVariables false
set_option linter.unusedSimpArgs false
namespace Go.Proofs.YtjfphobfikadlaaGreatDoor
open Go.RowKit Num

set_option maxRecDepth 100000 in
set_option maxHeartbeats 4000000 in
theorem r_CombineA (p need hold m : Nat) (v : Value) (L : List Sh) (S : Nat → Prop) (w : World) (hp : Prm p) (h2 : p ≤ 1073741824) (n1 : 1 ≤ need) (n2 : need ≤ hold) (n3 : hold ≤ 16) (n4 : hold < p)
    (hv : ShAt w S v L) (hS : ∀ b, S b → b < w.heap.size) (hnl : need ≤ L.length) (hl : L.length ≤ 16) (hm : m ≤ 2048) (ho : GoodSh p hold m L) :
    Calls Tryz.prog 30 #[planV p need hold, v] w (IntsPost2 (combL p need L m) w) := by
  obtain ⟨A, n, c, rfl, hn, hnc, hc⟩ := id hv
  obtain ⟨i0, hi, hz0, hz1, hz2⟩ := info_parts infoI
  obtain ⟨j0, hj, hy0, hy1, hy2⟩ := info_parts infoS
  have hnn : need ≤ n := by omega
  have hsl := fun (W : World) => run_slice_hi (P := Tryz.prog) W 41 49 j0 Tryz.underlying41 hj A n c need (by omega) (need : Int) rfl
  have kp : Blk (w.alloc (.cells #[.int .i64 (p : Int), .int .i64 (need : Int), .int .i64 (hold : Int)] 34)) w.heap.size 34 #[.int .i64 (p : Int), .int .i64 (need : Int), .int .i64 (hold : Int)] := Blk.new w _ _
  have hb0 : Below w.heap.size w (w.alloc (.cells #[.int .i64 (p : Int), .int .i64 (need : Int), .int .i64 (hold : Int)] 34)) := (Below.refl _ _).alloc (Nat.le_refl _) _
  have hval := fun W => r_PValid p need hold W hp h2 n1 n2 n3 n4
  have hgd : ∀ W, Below w.heap.size w W → Calls Tryz.prog 77 #[.agg #[.int .i64 (p : Int), .int .i64 (need : Int), .int .i64 (hold : Int)], .slice A n c] W (BoolBelow true W) := fun W hW =>
    r_GoodA p need hold m (.slice A n c) L S W hp h2 n3 (hv.keep fun b hb => hW.block b (hS b hb)) (fun b hb => Nat.lt_of_lt_of_le (hS b hb) hW.size) hl hm ho
  have htk : ∀ W, Below w.heap.size w W → ShAt W S (.slice A need c) (L.take need) := fun W hW => (hv.take hnn).keep fun b hb => hW.block b (hS b hb)
  have hg := ho.take need
  have hle : (L.take need).length = need := by rw [List.length_take]; omega
  have hcs0 := fun i => combL_succ p need L i
  generalize hLT : L.take need = LT at *
  have hsf := hg.hsF n4
  have hdi := hg.dist
  have hhl : (hsOf LT).length = need := by rw [hsOf_len, hle]
  have hpt : ∀ W i, i < m → Below w.heap.size w W → Calls Tryz.prog 79 #[.slice A need c, .int .i64 (i : Int)] W (PointsPost LT i W) := fun W i him hW => r_Points _ LT i S W (htk W hW) (fun b hb => Nat.lt_of_lt_of_le (hS b hb) hW.size) (by omega) (fun k hk => by rw [hg.len k hk]; exact him)
  have hip : ∀ W vx vy i T U, i < m → IntsAt W T vx (hsOf LT) → (∀ b, T b → b < W.heap.size) → IntsAt W U vy (colY LT i) → (∀ b, U b → b < W.heap.size) → Calls Tryz.prog 80 #[.int .i64 (p : Int), vx, vy, .int .i64 0] W fun e w' => e = .returned (.tuple #[.int .i64 (wsum (fun j => wt p (fOf (hsOf LT)) need j 0) (fOf (colY LT i)) need % (p : Int)), .int .i64 0]) ∧ Below W.heap.size W w' := fun W vx vy i T U him h1 hT h3 hU => by
    have := r_Interpolate p vx vy (hsOf LT) (colY LT i) T U 0 W hp h2 h1 hT h3 hU (by omega) (by omega) (by rw [colY_len, hle, hhl]) (by omega) (by omega) hsf (fun i j hi hj => hdi j i (by omega) hi (by omega)) (hg.colF i him)
    rwa [hhl] at this
  have hlen0 := ho.len 0 (by omega)
  have HV := Lib.hid hv
  have HVL := Lib.hid hval
  have HGD := Lib.hid hgd
  have HPT := Lib.hid hpt
  have HIP := Lib.hid hip
  have HCS := Lib.hid hcs0
  have HB0 := Lib.hid hb0
  have KP := Lib.hid kp
  have HL0 := Lib.hid hlen0
  have HN := Lib.hid hn
  have HSS := Lib.hid hS
  have hn16 : n ≤ 16 := by omega
  have tq1 : decide ((n : Int) < (need : Int)) = false := decide_eq_false (by omega)
  have tq2 : decide (n < need) = false := decide_eq_false (by omega)
  have hcm0 : combL p need L 0 = [] := rfl
  have HC0 := Lib.hid hcm0
  have e100 : (combL p need L m) = combL p need L m := rfl
  clear hv hc htk hg hle hsf hdi hhl hpt hip hcs0 hb0 kp ho hlen0 hn hLT hval hgd hS hcm0 e100
  unfold planV at *
  go_enter Tryz.func30, Tryz.ntmps30
  go_wp2_with fail
  refine (HVL.out _).mono ?_
  rintro e w1 ⟨rfl, hb1⟩
  have kp1 := KP.out.below hb1 KP.out.lt
  have hb := HB0.out.trans (hb1.mono HB0.out.size)
  have s0 : w1.cell? ⟨w.heap.size, 0, none⟩ = some (.int .i64 (p : Int)) := kp1.cell 0
  have s1 : w1.cell? ⟨w.heap.size, 1, none⟩ = some (.int .i64 (need : Int)) := kp1.cell 1
  have s2 : w1.cell? ⟨w.heap.size, 2, none⟩ = some (.int .i64 (hold : Int)) := kp1.cell 2
  have hz := kp1.lt
  have HB1 := Lib.hid hb
  have KP1 := Lib.hid kp1
  clear hb1 kp1 hb
  go_wp2_with fail
  refine (HGD.out _ HB1.out).mono ?_
  rintro e w2 ⟨rfl, hb2⟩
  have hb := HB1.out.trans (hb2.mono HB1.out.size)
  have kp2 := KP1.out.below hb2 hz
  have s0' : w2.cell? ⟨w.heap.size, 0, none⟩ = some (.int .i64 (p : Int)) := kp2.cell 0
  have s1' : w2.cell? ⟨w.heap.size, 1, none⟩ = some (.int .i64 (need : Int)) := kp2.cell 1
  have hz2' := kp2.lt
  obtain ⟨A1, n1', c1, hv1, e1, e2, hcs⟩ := HV.out
  injection hv1 with v1 v2 v3
  subst v1 v2 v3
  obtain ⟨b, off, rfl, hSb, hcell⟩ := hcs (by omega)
  obtain ⟨u0, _, m1, hu0⟩ := hcell 0 (by omega)
  rw [Nat.zero_mul, Nat.add_zero] at m1
  obtain ⟨Av, nv, cv, rfl, g1, g2, g3⟩ := id hu0
  have hl0 := HL0.out
  have hnv : nv = m := by omega
  subst hnv
  have m2 := (hb.cell (p := ⟨b, off + 1, none⟩) (HSS.out b hSb)).trans m1
  have q0n : (0 : Int) < (n : Int) := by omega
  have q0m : 0 < n := by omega
  have HB2 := Lib.hid hb
  have KP2 := Lib.hid kp2
  clear hb2 kp2 hb s0 s1 s2 e1 e2 hcs hcell m1 hu0 g1 g2 g3 hl0
  go_wp2_with fail
  go_loopw [33, 6] (fun t o wr => ∃ k : Nat, k ≤ nv ∧ t = .int .i64 (k : Int) ∧ wr.ownsRow w2.heap.size 3 1 o k ((combL p need L k).map (Value.int .i64)) ∧ Below w2.heap.size w2 wr) (fun t _ _ => nv - (intOf t).toNat)
  case atStart => exact ⟨0, by omega, rfl, World.ownsRow_nil _ _ _ _, Below.refl _ _⟩
  case round =>
    obtain ⟨k, hk, rfl, hown, hbl⟩ := hrel
    have hzz := hbl.size
    by_cases hlt : k < nv
    · have r0 := (hbl.cell (p := ⟨w.heap.size, 0, none⟩) hz2').trans s0'
      have r1 := (hbl.cell (p := ⟨w.heap.size, 1, none⟩) hz2').trans s1'
      have hww : Below w.heap.size w wr := HB2.out.trans (hbl.mono (by omega))
      have hpt := HPT.out wr k hlt hww
      have hcn := HCS.out k
      obtain ⟨x, hx⟩ : ∃ x, wsum (fun j => wt p (fOf (hsOf LT)) need j 0) (fOf (colY LT k)) need % (p : Int) = x := ⟨_, rfl⟩
      have hip := fun W vx vy T U => HIP.out W vx vy k T U hlt
      rw [hx] at hip hcn
      have HOWN := Lib.hid hown
      have HBL := Lib.hid hbl
      have HPK := Lib.hid hpt
      have HCN := Lib.hid hcn
      have HIK := Lib.hid hip
      have qk : (k : Int) < (nv : Int) := by omega
      have z0 : w.heap.size < wr.heap.size := by omega
      clear hown hbl hpt hcn hww hip hx
      go_wp2_with fail
      refine HPK.out.mono ?_
      rintro e w3 ⟨vx, vy, rfl, hox, hoy, hb3⟩
      have hs3 := hb3.size
      have r0' := (hb3.cell (p := ⟨w.heap.size, 0, none⟩) z0).trans r0
      have hip := HIK.out w3 vx vy _ _ hox.ints (fun b hb => hb.2) hoy.ints (fun b hb => hb.2)
      have HI3 := Lib.hid hip
      have HB3 := Lib.hid hb3
      clear hox hoy hb3 hip r0 r1
      go_wp2_with fail
      refine HI3.out.mono ?_
      rintro e w4 ⟨rfl, hb4⟩
      have hs4 := hb4.size
      have hb34 : Below wr.heap.size wr w4 := HB3.out.trans (hb4.mono hs3)
      have hown4 : w4.ownsRow w2.heap.size 3 1 u6 k ((combL p need L k).map (Value.int .i64)) := World.ownsRow.kept HOWN.out (only_of_below hb34 none) (by cases (u6 : Value).ownBlock <;> simp)
      have HB4 := Lib.hid (HBL.out.trans (hb34.mono hzz))
      have hz4 : w2.heap.size ≤ w4.heap.size := by omega
      clear hb4 hb34
      go_wp2_with (at_builtin; refine wpList_append_own _ rfl _ _ 24 rfl w2.heap.size 3 i0 (.int .i64 0) 1 8 Tryz.underlying24 hi hz0 hz1 hz2 rfl (by decide) _ _ _ rfl (hown4.alloc _) ⟨w4.heap.size, 0, none⟩ 1 1 [.int .i64 x] rfl rfl (fun j u hj => by have := cell_one_new w4 (.int .i64 x) 3 j u hj; simpa using this) (ints_oneCell .i64 [_]) (by unfold maxLen; omega) (by omega) (by simp; omega) ?_)
      intro v' w5 hown' hgrow _
      have hg := grown_past hgrow
      have hown2 : w5.ownsRow w2.heap.size 3 1 v' (k + 1) ((combL p need L (k + 1)).map (Value.int .i64)) := by
        rw [HCN.out, List.map_append]; simpa using hown'
      have hul : ∀ g, (u6 : Value).ownBlock = some g → w2.heap.size ≤ g := fun g hg => (hown4.lt g hg).1
      have HO5 := Lib.hid hown2
      have HB5 := Lib.hid (HB4.out.grown hg hz4 hul)
      clear hown' hgrow hg hown2 hul hown4
      go_wp2_with fail
      go_roundw
      case measure => simp [intOf]; omega
      case rel => first | exact ⟨k + 1, by omega, by go_num, HO5.out, HB5.out⟩ | ((repeat apply Exists.intro); exact ⟨⟨k + 1, by omega, by go_num, HO5.out, HB5.out⟩, rfl⟩)
    · have hkk : k = nv := by omega
      subst hkk
      have HOWN := Lib.hid hown
      have HBL := Lib.hid hbl
      clear hown hbl
      go_wp2_with fail
      go_ret2
      have hok' : wr.ownsRow w2.heap.size 3 1 u6 (combL p need L k).length ((combL p need L k).map (Value.int .i64)) := by
        rw [combL_len]; exact HOWN.out
      exact ⟨u6, rfl, (IntsAt.of_own hok').mono (fun b hb => ⟨by have := hb.1; omega, hb.2⟩), HB2.out.trans (HBL.out.mono (by omega))⟩
end Go.Proofs.YtjfphobfikadlaaGreatDoor
namespace Go.Proofs.YtjfphobfikadlaaGreatDoor
open Go.RowKit Num

/-- The holders of the first k places: from 1; then 0. -/
def hoL (hold k : Nat) : List Sh := (List.range hold).map fun h : Nat => (if h < k then ((h : Int) + 1) else 0, [])
theorem hoL_len (hold k : Nat) : (hoL hold k).length = hold := by simp [hoL]
theorem hoL_at (hold k h : Nat) (hh : h < hold) : shAt (hoL hold k) h = (if h < k then ((h : Int) + 1) else 0, []) := by
  unfold shAt hoL
  rw [List.getD_eq_getElem?_getD, List.getElem?_map, List.getElem?_range hh]; rfl
theorem hoL_cells (hold k : Nat) (us : Nat → Value) (j : Nat) (hj : j < 2 * hold) : (shC (hoL hold k) us)[j]? = some (if j % 2 = 0 then .int .i64 (if j / 2 < k then ((j / 2 : Nat) : Int) + 1 else 0) else us (j / 2)) := by
  rw [shC_get _ _ _ (by rw [hoL_len]; exact hj), hoL_at hold k (j / 2) (by omega)]
theorem hoL_next (hold k : Nat) (us : Nat → Value) (hk : k < hold) : (shC (hoL hold k) us).set (2 * k) (.int .i64 ((k : Int) + 1)) = shC (hoL hold (k + 1)) us := by
  apply List.ext_getElem?
  intro j
  rw [List.getElem?_set]
  by_cases hj : j < 2 * hold
  · rw [hoL_cells hold k us j hj, hoL_cells hold (k + 1) us j hj, shC_len, hoL_len]
    by_cases e : 2 * k = j
    · rw [if_pos e, if_pos (by omega), if_pos (by omega), show j / 2 = k by omega, if_pos (by omega)]
    · rw [if_neg e]
      by_cases e2 : j % 2 = 0
      · rw [if_pos e2, if_pos e2]
        by_cases e3 : j / 2 < k
        · rw [if_pos e3, if_pos (by omega)]
        · rw [if_neg e3, if_neg (by omega)]
      · rw [if_neg e2, if_neg e2]
  · rw [if_neg (by omega), List.getElem?_eq_none (by rw [shC_len, hoL_len]; omega), List.getElem?_eq_none (by rw [shC_len, hoL_len]; omega)]
theorem hoL_made (hold : Nat) : (madeCells #[Value.int .i64 0, .slice none 0 0] (hold * 2)).toList = shC (hoL hold 0) fun _ => .slice none 0 0 := by
  apply List.ext_getElem?
  intro j
  by_cases hj : j < 2 * hold
  · rw [hoL_cells hold 0 _ j hj, Array.getElem?_toList]
    unfold madeCells
    rw [Array.getElem?_map, Array.getElem?_range]
    rw [if_pos (by omega)]
    simp only [Option.map_some]
    congr 1
    rcases Nat.mod_two_eq_zero_or_one j with h | h
    · rw [if_pos h, if_neg (by omega)]
      show (#[Value.int .i64 0, .slice none 0 0])[j % 2]! = _
      rw [h]; rfl
    · rw [if_neg (by omega)]
      show (#[Value.int .i64 0, .slice none 0 0])[j % 2]! = _
      rw [h]; rfl
  · rw [List.getElem?_eq_none (by rw [Array.length_toList, size_madeCells]; omega), List.getElem?_eq_none (by rw [shC_len, hoL_len]; omega)]
/-- Shares of which each has its values in an array of its own. -/
structure ExpS (W : World) (B g hold : Nat) (us : Nat → Value) (rows : Nat → List Int) : Prop where
  own : W.ownsRow B 49 2 (.slice (some ⟨g, 0, none⟩) hold hold) hold (shC (hoL hold hold) us)
  row : ∀ h, h < hold → OwnI W B (us h) (rows h)
  apart : ∀ h h' q, h < hold → h' < hold → h ≠ h' → (us h).ownBlock = some q → (us h').ownBlock ≠ some q
section
variable {w W W' : World} {B g hold : Nat} {us : Nat → Value} {rows : Nat → List Int}
theorem ExpS.below (h : ExpS W B g hold us rows) (hb : Below W.heap.size W W') : ExpS W' B g hold us rows :=
  ⟨World.ownsRow.kept h.own (only_of_below hb none) (by right; simp [Value.ownBlock]), fun k hk => (h.row k hk).below hb, h.apart⟩
theorem ExpS.alloc (h : ExpS W B g hold us rows) (o : Obj) : ExpS (W.alloc o) B g hold us rows := h.below ((Below.refl _ _).alloc (Nat.le_refl _) o)
theorem ExpS.gl (h : ExpS W B g hold us rows) : B ≤ g ∧ g < W.heap.size := World.ownsRow.lt h.own g rfl
theorem ExpS.cell (h : ExpS W B g hold us rows) {k : Nat} (hk : k < hold) : W.cell? ⟨g, k * 2 + 1, none⟩ = some (us k) := by
  have := World.ownsRow.cellAt h.own (k * 2 + 1) (by omega)
  rw [this, hoL_cells hold hold us _ (by omega), if_neg (by omega), show (k * 2 + 1) / 2 = k by omega]
theorem ExpS.cellH (h : ExpS W B g hold us rows) {k : Nat} (hk : k < hold) : W.cell? ⟨g, k * 2, none⟩ = some (.int .i64 ((k : Int) + 1)) := by
  have := World.ownsRow.cellAt h.own (k * 2) (by omega)
  rw [this, hoL_cells hold hold us _ (by omega), if_pos (by omega), show k * 2 / 2 = k by omega, if_pos hk]
theorem ExpS.ne (h : ExpS W B g hold us rows) {k : Nat} (hk : k < hold) : (us k).ownBlock = none ∨ (us k).ownBlock ≠ some g := own_ne (h.row k hk) h.own (by decide)
/-- One value more for one share; its slice is then written. -/
theorem ExpS.app (h : ExpS W B g hold us rows) {k : Nat} (hk : k < hold) {x : Int} {v' : Value} (hown : OwnI W' B v' (rows k ++ [x])) (hg : W.grownBy W' (us k).ownBlock) (hat : ∀ q, v'.ownBlock = some q → (us k).ownBlock = some q ∨ W.heap.size ≤ q) :
    ExpS (W'.setCell ⟨g, k * 2 + 1, none⟩ v') B g hold (fun j => if j = k then v' else us j) (fun j => if j = k then rows k ++ [x] else rows j) := by
  have hown1 : W'.ownsRow B 49 2 (.slice (some ⟨g, 0, none⟩) hold hold) hold (shC (hoL hold hold) us) := World.ownsRow.kept h.own hg (by
    rcases h.ne hk with e | e
    · right; rw [e]; simp [Value.ownBlock]
    · exact .inr fun e' => e (by rw [← e']; rfl))
  have hst := World.ownsRow.stored hown1 (k * 2 + 1) v'
  have key : ∀ {u : Value} {ys : List Int}, OwnI W' B u ys → OwnI (W'.setCell ⟨g, k * 2 + 1, none⟩ v') B u ys := fun hu => hu.kept hst.2 (by
    have := own_ne hu hown1 (by decide)
    simpa [Value.ownBlock] using this)
  refine ⟨?_, fun j hj => ?_, fun j j' q hj hj' hne e => ?_⟩
  · have := hst.1
    rw [show k * 2 + 1 = 2 * k + 1 by omega, shC_set _ _ _ _ (by rw [hoL_len]; exact hk)] at this
    rw [show k * 2 + 1 = 2 * k + 1 by omega]
    exact this
  · by_cases e : j = k
    · simp only [if_pos e]; exact key hown
    · simp only [if_neg e]
      refine key ((h.row j hj).kept hg ?_)
      cases hb : (us j).ownBlock with
      | none => exact .inl rfl
      | some q => exact .inr fun e2 => h.apart j k q hj hk e hb e2.symm
  · by_cases e1 : j = k
    · have e2 : ¬ j' = k := fun e => hne (e1.trans e.symm)
      simp only [if_pos e1] at e
      simp only [if_neg e2]
      rcases hat q e with h' | h'
      · exact h.apart k j' q hk hj' (fun e => e2 e.symm) h'
      · intro e3
        have := (World.ownsRow.lt (h.row j' hj') q e3).2
        omega
    · simp only [if_neg e1] at e
      by_cases e2 : j' = k
      · simp only [if_pos e2]
        intro e3
        rcases hat q e3 with h' | h'
        · exact h.apart j k q hj hk e1 e h'
        · have := (World.ownsRow.lt (h.row j hj) q e).2
          omega
      · simp only [if_neg e2]
        exact h.apart j j' q hj hj' hne e
end
/-- The value of place i of the share of holder h + 1. -/
def explV (p : Nat) (K : List Sh) (sec : List Int) (h i : Nat) : Int := wsum (fun j => wt p (fOf (hsOf K ++ [0])) (K.length + 1) j ((h : Int) + 1)) (fOf (colY K i ++ [sec.getD i 0])) (K.length + 1) % (p : Int)
/-- The shares that explain a secret, beside the known ones. -/
def explL (p hold : Nat) (K : List Sh) (sec : List Int) : List Sh := (List.range hold).map fun h : Nat => ((h : Int) + 1, (List.range sec.length).map (explV p K sec h))
theorem explL_len (p hold : Nat) (K : List Sh) (sec : List Int) : (explL p hold K sec).length = hold := by simp [explL]
theorem explL_at (p hold : Nat) (K : List Sh) (sec : List Int) (h : Nat) (hh : h < hold) : shAt (explL p hold K sec) h = ((h : Int) + 1, (List.range sec.length).map (explV p K sec h)) := by
  unfold shAt explL
  rw [List.getD_eq_getElem?_getD, List.getElem?_map, List.getElem?_range hh]; rfl
theorem ExpS.shares {W : World} {B g hold : Nat} {us : Nat → Value} {p : Nat} {K : List Sh} {sec : List Int} (h : ExpS W B g hold us fun j => (List.range sec.length).map (explV p K sec j)) :
    ShAt W (fun b => B ≤ b ∧ b < W.heap.size) (.slice (some ⟨g, 0, none⟩) hold hold) (explL p hold K sec) := by
  refine ⟨some ⟨g, 0, none⟩, hold, hold, rfl, (explL_len ..).symm, Nat.le_refl _, fun _ => ⟨g, 0, rfl, h.gl, fun k hk => ⟨us k, ?_, ?_, ?_⟩⟩⟩
  · rw [explL_at _ _ _ _ _ hk, Nat.zero_add]; exact h.cellH hk
  · rw [Nat.zero_add]; exact h.cell hk
  · rw [explL_at _ _ _ _ _ hk]; exact (h.row k hk).ints
end Go.Proofs.YtjfphobfikadlaaGreatDoor
namespace Go.Proofs.YtjfphobfikadlaaGreatDoor
open Go.RowKit Num

theorem wt_inv {p : Nat} (hp : Prm p) {n : Nat} (xs : Nat → Int) (hA : ApartN p xs n) : ∀ i, i < n → Cg p (pbut xs i (xs i) n * invP p (wA p xs i (xs i) n)) 1 := fun i hi => by
  have h2 := hp.1
  have hne := pbut_ne hp xs i (xs i) n fun j hj hne hd => hA i j hi hj (Ne.symm hne) hd
  have hcg := wA_cg p xs i (xs i) n
  have h0 := (wA_bd p xs i (xs i) (by omega) n).1
  have hnd : ¬ (p : Int) ∣ wA p xs i (xs i) n := fun hd => hne (Cg.zero_iff.1 (hcg.symm.trans (Cg.zero_iff.2 hd)))
  exact (hcg.symm.mul (Cg.refl _ _)).trans (invP_cg hp h0 hnd)
theorem wt_cg (p : Nat) (xs : Nat → Int) (n i : Nat) (x : Int) : Cg p (wt p xs n i x) (pbut xs i x n * invP p (wA p xs i (xs i) n)) := Cg.of_emod ((wA_cg p xs i x n).mul (Cg.refl _ _))
/-- At its own places the interpolation gives the values. -/
theorem wt_node {p : Nat} (hp : Prm p) {n : Nat} (xs : Nat → Int) (hA : ApartN p xs n) (ys : Nat → Int) (j0 : Nat) (h : j0 < n) : Cg p (wsum (fun i => wt p xs n i (xs j0)) ys n) (ys j0) := by
  have := wsum_one (p := (p : Int)) (fun i => wt p xs n i (xs j0)) ys j0 n (fun j hj hne => (wt_cg p xs n j (xs j0)).trans (by rw [pbut_zero xs j j0 (Ne.symm hne) n h, Int.zero_mul]; exact Cg.refl _ _)) (fun hi => (wt_cg p xs n j0 (xs j0)).trans (wt_inv hp xs hA j0 hi))
  rwa [if_pos h] at this
/-- The interpolation is a polynomial. -/
theorem wt_poly {p : Nat} {n : Nat} (h1 : 1 ≤ n) (xs ys : Nat → Int) : ∃ P : List Int, P.length ≤ n ∧ ∀ x, Cg p (wsum (fun i => wt p xs n i x) ys n) (ev P x) := by
  have hW : ∀ i, i < n → IsP n (fun x => pbut xs i x n * invP p (wA p xs i (xs i) n)) := fun i hi => by
    have := pbut_isP xs i n
    rw [if_pos hi] at this
    obtain ⟨l, hl, hg⟩ := this.smul (invP p (wA p xs i (xs i) n))
    exact ⟨l, hl, fun x => by rw [← hg]; exact Int.mul_comm _ _⟩
  obtain ⟨P, hP, hev⟩ := wsum_isP (fun i x => pbut xs i x n * invP p (wA p xs i (xs i) n)) ys n hW h1
  exact ⟨P, hP, fun x => by rw [← hev]; exact wsum_cgM n (fun i _ => wt_cg p xs n i x) (fun i _ => Cg.refl _ _)⟩
section
variable {p need hold m : Nat} {K : List Sh} {sec : List Int}
theorem expl_good (hp1 : 1 ≤ p) : GoodSh p hold sec.length (explL p hold K sec) := by
  refine ⟨fun k hk => ?_, fun i j hi hj hne => ?_, fun k hk => ?_, fun k hk => ?_⟩
  all_goals rw [explL_len] at *
  · rw [explL_at _ _ _ _ _ hk]; show 1 ≤ (k : Int) + 1 ∧ (k : Int) + 1 ≤ _; omega
  · rw [explL_at _ _ _ _ _ hi, explL_at _ _ _ _ _ hj]; show (i : Int) + 1 ≠ (j : Int) + 1; omega
  · rw [explL_at _ _ _ _ _ hk]; simp
  · rw [explL_at _ _ _ _ _ hk]
    intro i hi
    simp only [List.length_map, List.length_range] at hi
    show 0 ≤ ((List.range sec.length).map (explV p K sec k)).getD i 0 ∧ ((List.range sec.length).map (explV p K sec k)).getD i 0 < p
    rw [List.getD_eq_getElem?_getD, List.getElem?_map, List.getElem?_range hi]
    exact ⟨Int.emod_nonneg _ (by omega), Int.emod_lt_of_pos _ (by omega)⟩
theorem app_get0 (L : List Int) (x : Int) (n : Nat) (h : L.length = n) : (L ++ [x]).getD n 0 = x := by
  rw [List.getD_eq_getElem?_getD, List.getElem?_append_right (by omega), h, Nat.sub_self]; rfl
theorem app_get1 (L : List Int) (x : Int) (k : Nat) (h : k < L.length) : (L ++ [x]).getD k 0 = L.getD k 0 := by
  rw [List.getD_eq_getElem?_getD, List.getD_eq_getElem?_getD, List.getElem?_append_left h]
theorem expl_apart (hk : K.length + 1 = need) (n4 : hold < p) (ho : GoodSh p hold m K) : ApartN p (fOf (hsOf K ++ [0])) need := by
  refine distinct_apart (fun k hk2 => ?_) (fun i j hi hj => ?_)
  · rcases Nat.lt_or_ge k K.length with h | h
    · have e : fOf (hsOf K ++ [0]) k = fOf (hsOf K) k := app_get1 _ _ _ (by rw [hsOf_len]; exact h)
      rw [e]; exact ho.hsF n4 k (by rw [hsOf_len]; exact h)
    · have e : fOf (hsOf K ++ [0]) k = 0 := by rw [show k = K.length by omega]; exact app_get0 _ _ _ (hsOf_len K)
      rw [e]; omega
  · have e1 : fOf (hsOf K ++ [0]) j = fOf (hsOf K) j := app_get1 _ _ _ (by rw [hsOf_len]; omega)
    rcases Nat.lt_or_ge i K.length with h | h
    · have e : fOf (hsOf K ++ [0]) i = fOf (hsOf K) i := app_get1 _ _ _ (by rw [hsOf_len]; exact h)
      rw [e, e1]; exact ho.dist j i (by rw [hsOf_len]; omega) (by rw [hsOf_len]; exact h) (by omega)
    · have e : fOf (hsOf K ++ [0]) i = 0 := by rw [show i = K.length by omega]; exact app_get0 _ _ _ (hsOf_len K)
      rw [e, e1, hsOf_get _ _ (by omega)]
      have := ho.holder j (by omega)
      omega
theorem expl_comb (hp : Prm p) (hk : K.length + 1 = need) (hh : need ≤ hold) (n4 : hold < p) (ho : GoodSh p hold sec.length K) (hf : InF p sec) : combL p need (explL p hold K sec) sec.length = sec := by
  have h2 := hp.1
  have hA := expl_apart hk n4 ho
  have hex : ∀ i, ∃ P : List Int, P.length ≤ need ∧ ∀ x, Cg p (wsum (fun j => wt p (fOf (hsOf K ++ [0])) need j x) (fOf (colY K i ++ [sec.getD i 0])) need) (ev P x) := fun i => wt_poly (by omega) _ _
  obtain ⟨P, hP⟩ := Classical.skolem.1 hex
  rw [comb_back (P := P) hp n4 (expl_good (by omega)) (by omega) (by rw [explL_len]; exact hh) (fun i _ => (hP i).1) (fun i k hi hk2 => by
    rw [explL_len] at hk2
    rw [explL_at _ _ _ _ _ hk2]
    show ((List.range sec.length).map (explV p K sec k)).getD i 0 = ev (P i) ((k : Int) + 1) % (p : Int)
    rw [List.getD_eq_getElem?_getD, List.getElem?_map, List.getElem?_range hi]
    show explV p K sec k i = _
    unfold explV
    rw [hk]
    exact (hP i).2 _)]
  apply List.ext_getElem
  · simp
  · intro i h1 h3
    simp only [List.getElem_map, List.getElem_range]
    have hx0 : fOf (hsOf K ++ [0]) K.length = 0 := app_get0 _ _ _ (hsOf_len K)
    have hn := wt_node hp _ hA (fOf (colY K i ++ [sec.getD i 0])) K.length (by omega)
    rw [hx0] at hn
    have hy0 : fOf (colY K i ++ [sec.getD i 0]) K.length = sec.getD i 0 := app_get0 _ _ _ (colY_len K i)
    rw [hy0] at hn
    have hb := hf i h3
    have he : sec.getD i 0 = sec[i] := by rw [List.getD_eq_getElem?_getD, List.getElem?_eq_getElem h3]; rfl
    have := ((hP i).2 0).symm.trans hn
    unfold Cg at this
    rw [this, Int.emod_eq_of_lt hb.1 hb.2, he]
theorem sh_at (L : List Sh) (k : Nat) (h : k < L.length) : shAt L k = L[k] := by
  unfold shAt; rw [List.getD_eq_getElem?_getD, List.getElem?_eq_getElem h]; rfl
theorem expl_take (hp : Prm p) (hk : K.length + 1 = need) (hh : need ≤ hold) (n4 : hold < p) (ho : GoodSh p hold sec.length K) (hst : ∀ j, j < K.length → (shAt K j).1 = (j : Int) + 1) : (explL p hold K sec).take K.length = K := by
  have h2 := hp.1
  have hA := expl_apart hk n4 ho
  apply List.ext_getElem
  · rw [List.length_take, explL_len]; omega
  · intro j h1 h3
    rw [List.getElem_take, ← sh_at _ _ (by rw [explL_len]; omega), explL_at _ _ _ _ _ (by omega), ← sh_at K j h3]
    have hl := ho.len j h3
    refine Prod.ext (hst j h3).symm ?_
    show (List.range sec.length).map (explV p K sec j) = (shAt K j).2
    apply List.ext_getElem
    · simp [hl]
    · intro i h4 h5
      simp only [List.getElem_map, List.getElem_range]
      have hx0 : fOf (hsOf K ++ [0]) j = (j : Int) + 1 := by
        have e : fOf (hsOf K ++ [0]) j = fOf (hsOf K) j := app_get1 _ _ _ (by rw [hsOf_len]; exact h3)
        rw [e, hsOf_get _ _ h3, hst j h3]
      have hn := wt_node hp _ hA (fOf (colY K i ++ [sec.getD i 0])) j (by omega)
      rw [hx0] at hn
      have hy0 : fOf (colY K i ++ [sec.getD i 0]) j = (shAt K j).2.getD i 0 := by
        have e : fOf (colY K i ++ [sec.getD i 0]) j = fOf (colY K i) j := app_get1 _ _ _ (by rw [colY_len]; exact h3)
        rw [e]; exact colY_get _ _ _ h3
      rw [hy0] at hn
      have hb := ho.inF j h3 i h5
      have he : (shAt K j).2.getD i 0 = (shAt K j).2[i] := by rw [List.getD_eq_getElem?_getD, List.getElem?_eq_getElem h5]; rfl
      unfold explV
      rw [hk]
      unfold Cg at hn
      rw [hn, Int.emod_eq_of_lt hb.1 hb.2, he]
end
end Go.Proofs.YtjfphobfikadlaaGreatDoor
