/- Contracts: a polynomial's degree, a copy of a slice, a short polynomial. Values in a row of cells. Contracts of the program's weights of places: all of them; the holders of shares. -/
import Derived.Test.YtjfphobfikadlaaGreatDoorX08
import Derived.Test.YtjfphobfikadlaaGreatDoorX03
import Derived.Test.YtjfphobfikadlaaGreatDoorX05
import Derived.Laws.MakeOwn
set_option linter.unusedVariables false
set_option linter.unusedSimpArgs false
namespace Go.Proofs.YtjfphobfikadlaaGreatDoor
open Go.RowKit Go.Shelf Num

attribute [local go_sem] Oper.semAt_some

theorem degN_all : ∀ zs : List Int, (∀ j, j < zs.length → zs.getD j 0 = 0) → degN zs = 0 := by
  intro zs
  induction zs with
  | nil => intro _; rfl
  | cons c l ih =>
    intro h
    have h1 := ih fun j hj => by have := h (j + 1) (by simp; omega); simpa using this
    have h2 : c = 0 := by have := h 0 (by simp); simpa using this
    rw [degN, if_neg (by omega), if_pos h2]
theorem degN_of : ∀ (zs : List Int) (m : Nat), m < zs.length → zs.getD m 0 ≠ 0 → (∀ j, m < j → j < zs.length → zs.getD j 0 = 0) → degN zs = m + 1 := by
  intro zs
  induction zs with
  | nil => intro m h; simp at h
  | cons c l ih =>
    intro m hm h0 h1
    cases m with
    | zero =>
      have h2 := degN_all l fun j hj => by have := h1 (j + 1) (by omega) (by simp; omega); simpa using this
      rw [degN, if_neg (by omega), if_neg (by simpa using h0)]
    | succ m =>
      have h2 := ih m (by simpa using hm) (by simpa using h0) fun j hj hl => by have := h1 (j + 1) (by omega) (by simp; omega); simpa using this
      rw [degN, if_pos (by omega), h2]
def plF (zs : List Int) (k : Nat) : Nat × Int := (zs.length - 1 - k, zs.getD (zs.length - 1 - k) 0)
theorem upF_get {α : Type} (f : Nat → α) (k j : Nat) (h : j < k) : f j ∈ upF f k := by
  unfold upF; exact List.mem_map.2 ⟨j, List.mem_range.2 h, rfl⟩

set_option maxRecDepth 100000 in
set_option maxHeartbeats 4000000 in
theorem p_Degree_in (len cap : Nat) (A : Option Addr) (zs : List Int) (w : World) (hlen : len = zs.length) (hl : len ≤ 1000000)
    (hc : 0 < len → ∃ b off, A = some ⟨b, off, none⟩ ∧ b < w.heap.size ∧ ∀ j, j < len → w.cell? ⟨b, off + j, none⟩ = some (.int .i64 (zs.getD j 0))) :
    CallsIn Fence.wide 3 Tryz.prog 198 #[.slice A len cap] w fun e W' => e = .returned (.int .i64 ((degN zs : Int) - 1)) ∧ Below w.heap.size w W' := by
  have h1 : 1 ≤ 3 := by omega
  have hro : Fence.wide.round = none := rfl
  refine callsIn_of_wp_marks Tryz.func198 rfl trivial ?_ hro
  simp only [Tryz.ntmps198, List.size_toArray, List.length_cons, List.length_nil, Nat.reduceAdd, Nat.reduceSub, Array.replicate_succ, Array.replicate_zero, List.push_toArray, List.append_toArray, List.nil_append, List.cons_append]
  have HL := Lib.hid hlen
  clear hlen
  have bR := Boxed.new w 3 (.int .i64 0)
  have c3 := Boxed.new (w.alloc (.cells #[.int .i64 0] 3)) 24 (.slice A len cap)
  simp only [World.size_alloc] at c3
  have d0 := bR.alloc (.cells #[.slice A len cap] 24)
  have hB0 : Below w.heap.size w ((w.alloc (.cells #[.int .i64 0] 3)).alloc (.cells #[.slice A len cap] 24)) := ((Below.refl _ w).alloc (Nat.le_refl _) _).alloc (by simp) _
  have hsz : ((w.alloc (.cells #[.int .i64 0] 3)).alloc (.cells #[.slice A len cap] 24)).heap.size = w.heap.size + 2 := by simp
  gi_wp2
  refine ⟨trivial, ?_⟩
  refine (back_in Fence.wide 2 trivial hro _ _ _ _).mono ?_
  rintro e w' ⟨rfl, rfl⟩
  gi_wp2
  have hcs : 0 < len → ∃ b off, A = some ⟨b, off, none⟩ ∧ b < w.heap.size ∧ ∀ j, j < len → ((w.alloc (.cells #[.int .i64 0] 3)).alloc (.cells #[.slice A len cap] 24)).cell? ⟨b, off + j, none⟩ = some (.int .i64 (zs.getD j 0)) := fun h => by
    obtain ⟨b, off, e, hb, hcc⟩ := hc h
    exact ⟨b, off, e, hb, fun j hj => (hB0.cell (p := ⟨b, off + j, none⟩) hb).trans (hcc j hj)⟩
  have hfs : ∀ k, k < len → (plF zs k).1 = len - 1 - k ∧ (plF zs k).2 = zs.getD (len - 1 - k) 0 := fun k hk => by
    rw [HL.out]; exact ⟨rfl, rfl⟩
  have hst := back_stops (α := Nat × Int) (fun c => c.1) (fun c => c.2) (plF zs) Fence.wide 2 trivial hro (by omega) (w.heap.size + 1) w.heap.size len cap A zs hl HL.out hfs _ (by rw [hsz]; omega) (by rw [hsz]; omega) c3.cell hcs
  generalize ((w.alloc (.cells #[.int .i64 0] 3)).alloc (.cells #[.slice A len cap] 24)) = w4 at *
  refine wpIn_rangeFunc_ownG hro h1 (gf := 172) (lb := #[.pointer (some ⟨w.heap.size + 1, 0, none⟩)]) rfl trivial (enters_of Tryz.func172 (by kernel_rfl) rfl)
    hst (fun h k => BKp.trans h k) (bkp_b (by rw [hsz]; omega) (by rw [hsz]; omega)) (Below.refl _ _) (fun _ => rfl)
    (fun pre W => ((∀ q ∈ pre, q.2 = 0) ∧ W.cell? ⟨w.heap.size, 0, none⟩ = some (.int .i64 0) ∧ W.frozen? ⟨w.heap.size, 0, none⟩ = false) ∧ Below w.heap.size w W)
    (fun c pre W => (c = .ret ∧ ∃ ini last, pre = ini ++ [last] ∧ (∀ q ∈ ini, q.2 = 0) ∧ last.2 ≠ 0 ∧ W.cell? ⟨w.heap.size, 0, none⟩ = some (.int .i64 (last.1 : Int))) ∧ Below w.heap.size w W)
    (OwnFrom.and (Own.from (fun s A B row hs hg hr => ⟨hs.1, cell_kept hs.2.1 hg hr, (frozen_kept hs.2.1 hg hr).trans hs.2.2⟩) _) (ownFrom_below (Nat.le_refl _) (by rw [hsz]; omega)))
    (fun c => OwnFrom.and (Own.from (fun s A B row hs hg hr => by obtain ⟨hc, ini, last, e1, e2, e3, e4⟩ := hs; exact ⟨hc, ini, last, e1, e2, e3, cell_kept e4 hg hr⟩) _) (ownFrom_below (Nat.le_refl _) (by rw [hsz]; omega)))
    ⟨⟨fun q hq => (by cases hq), d0.cell, d0.frozen⟩, hB0⟩
    (fun x => { tmps := #[.slice A len cap, undef, .pointer (some ⟨w.heap.size, 0, none⟩), .int .i64 (x.1 : Int), .int .i64 x.2, .slice A len cap, .func (.func 172) #[] #[.pointer (some ⟨w.heap.size + 1, 0, none⟩)], .int .i64 (x.1 : Int), .int .i64 x.2, undef, undef, undef], defers := [] }) ?assign ?body ?done ?stop
  case assign =>
    intro l x W K hK
    gi_wp2
    exact hK
  case body =>
    rintro l pre ⟨xi, xv⟩ W ⟨⟨hp, hcr, hfr⟩, hB⟩ _
    dsimp only
    by_cases hx : xv = 0
    · have t0 : (xv != 0) = false := by rw [hx]; rfl
      have hpn : ∀ q ∈ pre ++ [(xi, xv)], q.2 = 0 := fun q hq => (List.mem_append.1 hq).elim (hp q) (fun e => by simp at e; subst e; exact hx)
      clear hx hp
      gi_wp2
      exact ⟨KeepsFrom.refl _ _, ⟨Below.refl _ _, rfl⟩, ⟨hpn, hcr, hfr⟩, hB⟩
    · have t0 : (xv != 0) = true := by simpa using hx
      gi_wp2
      exact ⟨(KeepsOthers.setCell _ _ _).from _, ⟨rfl, pre, (xi, xv), rfl, hp, hx, World.cell?_setCell_same' _ _ _ (by rw [hcr]; rfl)⟩, hB.setCell (p := ⟨w.heap.size, 0, none⟩) (Nat.le_refl _) _⟩
  case done =>
    rintro D ys W hD rfl ⟨⟨hne, hcr, hfr⟩, hB⟩ hK
    gi_wp2
    have hK' := (KeepsOthers.setCell W ⟨w.heap.size, 0, none⟩ (.int .i64 (-1))).same D _ hK rfl
    refine ⟨by simp, .inl ⟨_, _, rfl, run_takeDeferred hK', ?_⟩⟩
    have hc5 := cell_kept (World.cell?_setCell_same' W ⟨w.heap.size, 0, none⟩ (.int .i64 (-1)) (by rw [hcr]; rfl)) (grownBy_putObj' _ D (.deferred none)) (fun r e => by cases e; exact ⟨_, hK', rfl⟩)
    have hdz : degN zs = 0 := degN_all zs fun j hj => by
      have := hne (plF zs (zs.length - 1 - j)) (upF_get _ _ _ (by have := HL.out; omega))
      unfold plF at this
      rwa [show zs.length - 1 - (zs.length - 1 - j) = j by omega] at this
    refine ⟨.int .i64 (-1), ?_, by rw [hdz]; rfl, (hB.setCell (p := ⟨w.heap.size, 0, none⟩) (Nat.le_refl _) _).trans (belowK_b (w := w) (Nat.le_refl _) _ D _ _ (by omega) hK' rfl rfl)⟩
    simp [results, Tryz.f198, go_sem, hc5]
  case stop =>
    rintro D c pre W hD ⟨k, hk, rfl⟩ ⟨⟨rfl, ini, last, e1, e2, e3, hcr⟩, hB⟩ hK
    gi_wp2
    refine ⟨by simp, .inl ⟨_, _, rfl, run_takeDeferred hK, ?_⟩⟩
    have hc5 := cell_kept hcr (grownBy_putObj' _ D (.deferred none)) (fun r e => by cases e; exact ⟨_, hK, rfl⟩)
    obtain ⟨k', rfl⟩ : ∃ k', k = k' + 1 := by
      cases k with
      | zero => simp [upF] at e1
      | succ k' => exact ⟨k', rfl⟩
    rw [upF_succ] at e1
    obtain ⟨rfl, e5⟩ := List.append_inj' e1 rfl
    obtain rfl : plF zs k' = last := by simpa using e5
    have hkl : k' < zs.length := by have := HL.out; omega
    have hdz : degN zs = zs.length - 1 - k' + 1 := degN_of zs (zs.length - 1 - k') (by omega) e3 fun j hj hjl => by
      have := e2 (plF zs (zs.length - 1 - j)) (upF_get _ _ _ (by omega))
      unfold plF at this
      rwa [show zs.length - 1 - (zs.length - 1 - j) = j by omega] at this
    refine ⟨.int .i64 ((plF zs k').1 : Int), ?_, ?_, hB.trans (belowK_b (w := w) (Nat.le_refl _) W D _ _ (by omega) hK rfl rfl)⟩
    · simp [results, Tryz.f198, go_sem, hc5]
    · rw [hdz]
      show Ending.returned (.int .i64 ((zs.length - 1 - k' : Nat) : Int)) = _
      congr 2; omega
/-- The contract: the degree. -/
theorem p_Degree (v : Value) (zs : List Int) (S : Nat → Prop) (w : World) (hv : IntsAt w S v zs) (hS : ∀ b, S b → b < w.heap.size) (hl : zs.length ≤ 1000000) :
    Calls Tryz.prog 198 #[v] w (IntB ((degN zs : Int) - 1) w) := by
  obtain ⟨A, n, c, rfl, hn, hnc, hcc⟩ := hv
  refine callsIn_wide.1 (p_Degree_in n c A zs w hn (by omega) (fun h => ?_))
  obtain ⟨b, off, hA, hSb, hcell⟩ := hcc h
  exact ⟨b, off, hA, hS b hSb, hcell⟩
end Go.Proofs.YtjfphobfikadlaaGreatDoor
namespace Go.Proofs.YtjfphobfikadlaaGreatDoor
open Go.RowKit Num

/-- Values in a row of cells. -/
structure ArrV (w : World) (B n : Nat) (f : Nat → Value) : Prop where
  cell : ∀ i, i < n → w.cell? ⟨B, i, none⟩ = some (f i)
  live : ∀ i, i < n → w.frozen? ⟨B, i, none⟩ = false
def updV (f : Nat → Value) (i : Nat) (v : Value) : Nat → Value := fun j => if j = i then v else f j
theorem ArrV.upd {w : World} {B n : Nat} {f : Nat → Value} (h : ArrV w B n f) {i : Nat} (v : Value) (hi : i < n) : ArrV (w.setCell ⟨B, i, none⟩ v) B n (updV f i v) := by
  refine ⟨fun j hj => ?_, fun j hj => ?_⟩
  · by_cases hji : j = i
    · subst hji; rw [World.cell?_setCell_same _ _ _ (h.cell j hj)]; unfold updV; rw [if_pos rfl]
    · rw [World.cell?_setCell_other _ _ _ _ (by intro e; injection e with e1 e2; exact hji e2.symm), h.cell j hj]; unfold updV; rw [if_neg hji]
  · rw [World.frozen?_setCell]; exact h.live j hj
theorem ArrV.congr {w : World} {B n : Nat} {f g : Nat → Value} (h : ArrV w B n f) (e : ∀ i, i < n → f i = g i) : ArrV w B n g :=
  ⟨fun i hi => by rw [h.cell i hi, e i hi], h.live⟩
theorem ArrV.drew {w : World} {B n : Nat} {f : Nat → Value} (h : ArrV w B n f) : ArrV w.drew B n f := ⟨h.cell, h.live⟩
end Go.Proofs.YtjfphobfikadlaaGreatDoor
namespace Go.Proofs.YtjfphobfikadlaaGreatDoor
open Go.RowKit Num Go.Maps

theorem lawI : Keyed Tryz.prog 3 := int_keyed Tryz.underlying3
set_option maxRecDepth 100000 in
set_option maxHeartbeats 1000000 in
theorem p_different (v : Value) (xs : List Int) (S : Nat → Prop) (w : World) (hv : IntsAt w S v xs) (hS : ∀ b, S b → b < w.heap.size) (hl : xs.length ≤ 1000)
    (hxs : ∀ k, k < xs.length → 0 ≤ fOf xs k ∧ fOf xs k < 2147483648) (hA : ∀ i j, i < xs.length → j < xs.length → i ≠ j → fOf xs i ≠ fOf xs j) :
    Calls Tryz.prog 195 #[v] w fun e w' => e = .returned (.bool true) ∧ Below w.heap.size w w' := by
  obtain ⟨A, n, c, rfl, hn, hnc, hc⟩ := hv
  have hmm := @run_makeMap Tryz.prog
  have hn1 : n ≤ 1000 := by omega
  rw [← hn] at hxs hA
  clear hl hn
  have HXS := Lib.hid hxs
  have HA := Lib.hid hA
  clear hxs hA
  go_enter Tryz.func195, Tryz.ntmps195
  go_wp2_with fail
  go_loopw [9] (fun i wr => ∃ (k : Nat) (D : DataW Unit), k ≤ n ∧ i = .int .i64 k ∧ wr.ownsMap Tryz.prog 3 (plainElem Tryz.prog 4) w.heap.size k D ∧ Maps.size D = k ∧ (∀ y, (∀ j, j < k → fOf xs j ≠ y) → Maps.has D (.int .i64 y) = false) ∧ Below w.heap.size w wr)
    (fun i _ => n - (intOf i).toNat)
  case atStart => exact ⟨0, .map [], Nat.zero_le _, rfl, World.ownsMap_made _ _ _ _, rfl, fun y _ => rfl, (Below.refl _ _).alloc (Nat.le_refl _) _⟩
  case round =>
    obtain ⟨k, D, hk, rfl, hown, hsz, hhas, hbl⟩ := hrel
    have HB := Lib.hid hbl
    have HH := Lib.hid hhas
    have HSZ := Lib.hid hsz
    clear hbl hhas hsz
    by_cases hl : k < n
    · obtain ⟨b, off, rfl, hSb, hcell⟩ := hc (by omega)
      have hlt := hS b hSb
      have ck := (HB.out.cell (p := ⟨b, off + k, none⟩) hlt).trans (hcell k hl)
      change wr.cell? ⟨b, off + k, none⟩ = some (.int .i64 (fOf xs k)) at ck
      have bk := HXS.out k hl
      obtain ⟨x, hx⟩ : ∃ x, fOf xs k = x := ⟨_, rfl⟩
      rw [hx] at ck bk
      have HX := Lib.hid hx
      have hnew := HH.out x (fun j hj e => HA.out j k (by omega) hl (by omega) (e.trans hx.symm))
      have HNEW := Lib.hid hnew
      have htd := hown.tidy lawI
      have HTD := Lib.hid htd
      have qk : (k : Int) < (n : Int) := by omega
      clear hx hnew htd hcell
      go_wp2_with (at_mapUpdate; refine wpList_mapUpdate_own _ rfl _ _ _ 103 rfl 3 4 lawI Tryz.underlying103 (plainElem (H := Unit) Tryz.prog 4) w.heap.size k _ rfl hown (by unfold maxLen; omega) _ _ _ rfl rfl (keyOf_int_mk Tryz.underlying3 (WalkArith.wf_i64 (by omega))) _ [] (plainElem_bool Tryz.underlying4 true) ?_)
      intro w1 hown1 hgrow1
      have hs1 : Maps.size (D.put (.int .i64 x) (.lit (.bool true))) = k + 1 := by rw [size_put HTD.out, if_neg (by rw [HNEW.out]; simp), HSZ.out]
      have hh1 : ∀ y, (∀ j, j < k + 1 → fOf xs j ≠ y) → Maps.has (D.put (.int .i64 x) (.lit (.bool true))) (.int .i64 y) = false := fun y hy => by
        rw [has_put_other (fun e => hy k (by omega) (by rw [HX.out]; injection e with _ e; exact e.symm))]
        exact HH.out y fun j hj => hy j (by omega)
      have hb1 := HB.out.grown hgrow1 HB.out.size (fun j hj => by cases hj; exact Nat.le_refl _)
      have HO1 := Lib.hid hown1
      have HS1 := Lib.hid hs1
      have HH1 := Lib.hid hh1
      have HB1 := Lib.hid hb1
      clear hown1 hgrow1 hs1 hh1 hb1 hown
      go_wp2_with fail
      go_roundw
      case measure => simp [intOf]; omega
      case rel => exact ⟨k + 1, _, by omega, by go_num, HO1.out, HS1.out, HH1.out, HB1.out⟩
    · have hkn : k = n := by omega
      subst hkn
      have hsz := HSZ.out
      go_wp2_with (at_len; refine wpList_len_own _ rfl _ 103 rfl 3 4 Tryz.underlying103 _ w.heap.size k _ rfl hown ?_)
      go_wp2_with fail
      go_ret
      exact ⟨ret_bool (by simp), HB.out⟩

set_option maxHeartbeats 400000 in
theorem p_check (v : Value) (xs : List Int) (S : Nat → Prop) (w : World) (hv : IntsAt w S v xs) (hS : ∀ b, S b → b < w.heap.size) (h0 : 0 < xs.length) (hl : xs.length ≤ 1000)
    (hxs : ∀ k, k < xs.length → 0 ≤ fOf xs k ∧ fOf xs k < 2147483648) (hA : ∀ i j, i < xs.length → j < xs.length → i ≠ j → fOf xs i ≠ fOf xs j) :
    Calls Tryz.prog 160 #[v] w fun e w' => e = .returned (.int .i64 0) ∧ Below w.heap.size w w' := by
  obtain ⟨A, n, c, rfl, hn, hnc, hc⟩ := id hv
  have t0 : ((n : Int) == 0) = false := by simp; omega
  have HV := Lib.hid hv
  have HXS := Lib.hid hxs
  have HA := Lib.hid hA
  have hn1 : n ≤ 1000 := by omega
  clear hv hxs hA hc hn
  go_enter Tryz.func160, Tryz.ntmps160
  go_wp2_with fail
  refine (p_different _ xs S _ HV.out hS hl HXS.out HA.out).mono ?_
  rintro e w1 ⟨rfl, hb1⟩
  go_wp2_with fail
  go_ret
  exact ⟨rfl, hb1⟩
/-- The weights of all places. -/
def wts (p : Nat) (xs : List Int) (x : Int) : List Int := (List.range xs.length).map fun i => wt p (fOf xs) xs.length i x
theorem wts_get (p : Nat) (xs : List Int) (x : Int) (i : Nat) (h : i < xs.length) : (wts p xs x).getD i 0 = wt p (fOf xs) xs.length i x := by
  unfold wts; rw [List.getD_eq_getElem?_getD, List.getElem?_map, List.getElem?_range h]; rfl
def IntsPost (xs : List Int) (w : World) (e : Ending) (w' : World) : Prop :=
  ∃ v, e = .returned v ∧ IntsAt w' (fun b => w.heap.size ≤ b ∧ b < w'.heap.size) v xs ∧ Below w.heap.size w w'
def IntsPost2 (xs : List Int) (w : World) (e : Ending) (w' : World) : Prop :=
  ∃ v, e = .returned (.tuple #[v, .int .i64 0]) ∧ IntsAt w' (fun b => w.heap.size ≤ b ∧ b < w'.heap.size) v xs ∧ Below w.heap.size w w'
theorem zeros_get (n i : Nat) (h : i < n) : (madeCells #[Value.int .i64 0] n)[i]? = some (.int .i64 0) := by
  have : (madeCells #[Value.int .i64 0] n).toList[i]? = some (.int .i64 0) := by
    rw [toList_madeCells_one, List.getElem?_replicate, if_pos h]
  rwa [Array.getElem?_toList] at this
set_option maxRecDepth 100000 in
set_option maxHeartbeats 1000000 in
theorem p_Weights (p : Nat) (v : Value) (xs : List Int) (S : Nat → Prop) (x : Int) (w : World) (hp : Prm p) (h2 : p ≤ 1073741824) (hv : IntsAt w S v xs) (hS : ∀ b, S b → b < w.heap.size) (h0 : 0 < xs.length) (hl : xs.length ≤ 1000)
    (hx0 : 0 ≤ x) (hx1 : x < 2147483648) (hxs : ∀ k, k < xs.length → 0 ≤ fOf xs k ∧ fOf xs k < 2147483648) (hA : ApartN p (fOf xs) xs.length) :
    Calls Tryz.prog 127 #[.int .i64 (p : Int), v, .int .i64 x] w (IntsPost2 (wts p xs x) w) := by
  obtain ⟨A, n, c, rfl, hn, hnc, hc⟩ := id hv
  obtain ⟨i0, hi, hz0, hz1, hz2⟩ := info_parts infoI
  have hn1 : n ≤ 1000 := by omega
  have hn0 : 0 < n := by omega
  have hmk := fun (W : World) => run_make (P := Tryz.prog) W 24 3 i0 (.int .i64 0) Tryz.underlying24 hi hz0 .i64 .i64 n n (by omega) (by omega) (by rw [hz2]; omega) (by omega)
  simp only [Int.toNat_natCast, hz1, Nat.mul_one] at hmk
  have HV := Lib.hid hv
  have HXS := Lib.hid hxs
  have HA := Lib.hid hA
  have HN := Lib.hid hn
  clear hv hxs hA hc hn
  go_enter Tryz.func127, Tryz.ntmps127
  go_wp2_with fail
  refine (p_check _ xs S _ HV.out hS h0 hl HXS.out (fun i j hi hj hne e => HA.out i j hi hj hne (by rw [e, Int.sub_self]; exact Int.dvd_zero _))).mono ?_
  rintro e w1 ⟨rfl, hb1⟩
  go_wp2_with fail
  have hbw := hb1.alloc hb1.size (.cells (madeCells #[Value.int .i64 0] n) 3)
  have hs1 := hb1.size
  have HB1 := Lib.hid hbw
  have HBB := Lib.hid hb1
  clear hbw hb1
  go_loopw [21] (fun t wr => ∃ k : Nat, k ≤ n ∧ t = .int .i64 k ∧ ArrV wr w1.heap.size n (fun j => .int .i64 (if j < k then wt p (fOf xs) n j x else 0)) ∧ Below w.heap.size w wr ∧ w1.heap.size < wr.heap.size) (fun t _ => n - (intOf t).toNat)
  case atStart =>
    refine ⟨0, by omega, rfl, ⟨fun j hj => ?_, fun j hj => World.frozen?_alloc_new _ _ _ _⟩, HB1.out, by simp⟩
    rw [World.cell?_alloc_new]
    exact (zeros_get n j hj).trans (by rw [if_neg (by omega)])
  case round =>
    obtain ⟨k, hk, rfl, harr, hbl, hz⟩ := hrel
    have HARR := Lib.hid harr
    have HBL := Lib.hid hbl
    by_cases hlt : k < n
    · have ck := harr.cell k hlt
      have fk := harr.live k hlt
      have qk : (k : Int) < (n : Int) := by omega
      rw [if_neg (by omega)] at ck
      have hvr : IntsAt wr S (.slice A n c) xs := HV.out.keep fun b hb => hbl.block b (hS b hb)
      have HVR := Lib.hid hvr
      clear harr hbl hvr ck
      go_wp2_with fail
      refine (p_weight p _ xs S k x _ hp h2 HVR.out hl (by rw [← HN.out]; exact hlt) hx0 hx1 HXS.out HA.out).mono ?_
      rintro e w2 ⟨rfl, m, rfl⟩
      have ck := HARR.out.cell k hlt
      rw [if_neg (by omega)] at ck
      rw [← HN.out]
      obtain ⟨y, hy⟩ : ∃ y, wt p (fOf xs) n k x = y := ⟨_, rfl⟩
      rw [hy]
      have HY := Lib.hid hy
      clear hy
      go_wp2_with fail
      go_roundw
      case measure => simp [intOf]; omega
      case rel =>
        refine ⟨k + 1, by omega, by go_num, ?_, ?_, by simpa using hz⟩
        · have h5 : ArrV (wr.drewN m) w1.heap.size n _ := ⟨HARR.out.cell, HARR.out.live⟩
          refine (h5.upd (.int .i64 y) hlt).congr fun j hj => ?_
          unfold updV
          by_cases hjk : j = k
          · subst hjk; rw [if_pos rfl, if_pos (by omega), HY.out]
          · rw [if_neg hjk]
            show Value.int .i64 (if j < k then _ else _) = _
            by_cases hj2 : j < k
            · rw [if_pos hj2, if_pos (by omega)]
            · rw [if_neg hj2, if_neg (by omega)]
        · exact (below_dn HBL.out m).setCell (p := ⟨w1.heap.size, k, none⟩) (by exact hs1) _
    · have hkn : k = n := by omega
      subst hkn
      clear harr hbl
      go_wp2_with fail
      go_ret2
      refine ⟨_, rfl, ⟨_, k, k, rfl, by rw [HN.out]; simp [wts], Nat.le_refl _, fun _ => ⟨w1.heap.size, 0, rfl, ⟨hs1, hz⟩, fun j hj => ?_⟩⟩, HBL.out⟩
      have := HARR.out.cell j hj
      rw [if_pos hj] at this
      rw [Nat.zero_add, this, wts_get p xs x j (by rw [← HN.out]; exact hj), HN.out]

/-- A slice of shares, its cells in blocks of S. -/
def ShAt (w : World) (S : Nat → Prop) (v : Value) (L : List Sh) : Prop :=
  ∃ (A : Option Addr) (n c : Nat), v = .slice A n c ∧ n = L.length ∧ n ≤ c ∧ (0 < n → ∃ b off, A = some ⟨b, off, none⟩ ∧ S b ∧
    ∀ k, k < n → ∃ u, w.cell? ⟨b, off + k * 2, none⟩ = some (.int .i64 (shAt L k).1) ∧ w.cell? ⟨b, off + k * 2 + 1, none⟩ = some u ∧ IntsAt w S u (shAt L k).2)
theorem ShAt.keep {w w' : World} {S : Nat → Prop} {v : Value} {L : List Sh} (h : ShAt w S v L) (hk : ∀ b, S b → w'.heap[b]? = w.heap[b]?) : ShAt w' S v L := by
  obtain ⟨A, n, c, h1, h2, h3, h4⟩ := h
  refine ⟨A, n, c, h1, h2, h3, fun hn => ?_⟩
  obtain ⟨b, off, hA, hS, hc⟩ := h4 hn
  refine ⟨b, off, hA, hS, fun k hk' => ?_⟩
  obtain ⟨u, c1, c2, c3⟩ := hc k hk'
  exact ⟨u, (World.cell?_of_block (hk b hS)).trans c1, (World.cell?_of_block (hk b hS)).trans c2, c3.keep hk⟩
theorem ShAt.mono {w : World} {S T : Nat → Prop} {v : Value} {L : List Sh} (h : ShAt w S v L) (hk : ∀ b, S b → T b) : ShAt w T v L := by
  obtain ⟨A, n, c, h1, h2, h3, h4⟩ := h
  refine ⟨A, n, c, h1, h2, h3, fun hn => ?_⟩
  obtain ⟨b, off, hA, hS, hc⟩ := h4 hn
  refine ⟨b, off, hA, hk b hS, fun k hk' => ?_⟩
  obtain ⟨u, c1, c2, c3⟩ := hc k hk'
  exact ⟨u, c1, c2, c3.mono hk⟩
theorem OwnSh.at_ {w : World} {B : Nat} {v : Value} {L : List Sh} (h : OwnSh w B v L) : ShAt w (fun b => B ≤ b ∧ b < w.heap.size) v L := by
  obtain ⟨cells, hr, hk⟩ := h
  rcases hr.2 with ⟨rfl, h0⟩ | ⟨g, cap, cur, rfl, hB, hh, hnc, hm, hs, ht⟩
  · exact ⟨none, 0, 0, rfl, h0.symm, Nat.le_refl _, fun h => by omega⟩
  · refine ⟨_, L.length, cap, rfl, rfl, hnc, fun hn => ⟨g, 0, rfl, ⟨hB, (Array.getElem?_eq_some_iff.1 hh).1⟩, fun k hk' => ?_⟩⟩
    obtain ⟨u, h1, h2, h3⟩ := hk k hk'
    have hc := hr.cells (g := g) rfl
    have ha : ∀ j, (⟨g, 0, none⟩ : Addr).add j = ⟨g, 0 + j, none⟩ := fun j => by unfold Addr.add; split <;> simp_all
    refine ⟨u, ?_, ?_, IntsAt.of_own h3⟩
    · have := hc _ _ h1; rwa [ha, Nat.mul_comm] at this
    · have := hc _ _ h2; rwa [ha, Nat.mul_comm] at this

set_option maxRecDepth 100000 in
set_option maxHeartbeats 1000000 in
theorem s_Holders (v : Value) (L : List Sh) (S : Nat → Prop) (w : World) (hv : ShAt w S v L) (hS : ∀ b, S b → b < w.heap.size) (hl : L.length ≤ 1000) :
    Calls Tryz.prog 94 #[v] w (IntsPost (L.map (·.1)) w) := by
  obtain ⟨A, n, c, rfl, hn, hnc, hc⟩ := hv
  obtain ⟨i0, hi, hz0, hz1, hz2⟩ := info_parts infoI
  have hn1 : n ≤ 1000 := by omega
  have HN := Lib.hid hn
  clear hn hl
  go_enter Tryz.func94, Tryz.ntmps94
  go_wp2_with fail
  go_loopw [3, 8] (fun o t wr => ∃ k : Nat, k ≤ n ∧ t = .int .i64 k ∧ wr.ownsRow w.heap.size 3 1 o k (((L.take k).map (·.1)).map (Value.int .i64)) ∧ Below w.heap.size w wr) (fun _ t _ => n - (intOf t).toNat)
  case atStart => exact ⟨0, by omega, rfl, World.ownsRow_nil _ _ _ _, Below.refl _ _⟩
  case round =>
    obtain ⟨k, hk, rfl, hown, hbl⟩ := hrel
    have hsz := hbl.size
    by_cases hlt : k < n
    · obtain ⟨b, off, rfl, hSb, hcell⟩ := hc (by omega)
      obtain ⟨u, c0, c1, hu⟩ := hcell k hlt
      obtain ⟨Au, nu, cu, rfl, _⟩ := hu
      have hbw := hS b hSb
      have d0 := (hbl.cell (p := ⟨b, off + k * 2, none⟩) hbw).trans c0
      have d1 := (hbl.cell (p := ⟨b, off + k * 2 + 1, none⟩) hbw).trans c1
      have qk : (k : Int) < (n : Int) := by omega
      have HBL := Lib.hid hbl
      obtain ⟨h, hh⟩ : ∃ h, (shAt L k).1 = h := ⟨_, rfl⟩
      rw [hh] at d0
      have hstep : ((L.take (k + 1)).map (·.1)).map (Value.int .i64) = ((L.take k).map (·.1)).map (Value.int .i64) ++ [.int .i64 h] := by
        have hkl : k < L.length := by rw [← HN.out]; exact hlt
        rw [List.take_succ_eq_append_getElem hkl, List.map_append, List.map_append]
        have : shAt L k = L[k] := by unfold shAt; rw [List.getD_eq_getElem?_getD, List.getElem?_eq_getElem hkl]; rfl
        rw [← hh, this]; rfl
      have HST := Lib.hid hstep
      clear hbl hcell c0 c1 hc hh hstep
      go_wp2_with (at_builtin; refine wpList_append_own _ rfl _ _ 24 rfl w.heap.size 3 i0 (.int .i64 0) 1 8 Tryz.underlying24 hi hz0 hz1 hz2 rfl (by decide) _ _ _ rfl ((hown.alloc _).alloc _) ⟨wr.heap.size + 1, 0, none⟩ 1 1 [.int .i64 h] rfl rfl (fun j u hj => by have := cell_one_new (wr.alloc (.cells #[.int .i64 h, .slice Au (shAt L k).2.length cu] 49)) (.int .i64 h) 3 j u hj; simpa using this) (ints_oneCell .i64 [_]) (by unfold maxLen; omega) (by omega) (by simp; omega) ?_)
      intro v' w2 hown' hgrow _
      have hg := grown_past (grown_past hgrow)
      have hown2 : w2.ownsRow w.heap.size 3 1 v' (k + 1) (((L.take (k + 1)).map (·.1)).map (Value.int .i64)) := by rw [HST.out]; simpa using hown'
      have hul : ∀ g, u3.ownBlock = some g → w.heap.size ≤ g := fun g hg => (hown.lt g hg).1
      have hb2 := HBL.out.grown hg hsz hul
      have HO2 := Lib.hid hown2
      have HB2 := Lib.hid hb2
      clear hown' hgrow hg hown2 hul hb2 hown
      go_wp2_with fail
      go_roundw
      case measure => simp [intOf]; omega
      case rel => exact ⟨k + 1, by omega, by go_num, HO2.out, HB2.out⟩
    · have hkn : k = n := by omega
      subst hkn
      go_wp2_with fail
      go_ret
      refine ⟨_, rfl, IntsAt.of_own (n := k) ?_, hbl⟩
      rwa [List.take_of_length_le (by rw [← HN.out]; exact Nat.le_refl _)] at hown
end Go.Proofs.YtjfphobfikadlaaGreatDoor
