/- Words for the law PairWays: what is seen, and how it is counted. -/
import Derived.Test.YtgeahbmaeaoeeaaGreatDoorPwLw0
set_option linter.unusedVariables false
set_option linter.unusedSimpArgs false
namespace Go.Proofs.YtgeahbmaeaoeeaaGreatDoor
open Go.RowKit Num

/-- The value that a holder was dealt. -/
def yOf (p k : Nat) (x0 : Int) (R : List Int) (h : Int) : Int := dealV p k h.toNat [x0] R 0
theorem yOf_bd {p k : Nat} {x0 : Int} {R : List Int} {h : Int} (hp : 1 ≤ p) : 0 ≤ yOf p k x0 R h ∧ yOf p k x0 R h < (p : Int) := evH_bd p _ hp _
theorem deal_len (p k : Nat) (sec rnd : List Int) (n : Nat) : (dealL p k sec rnd n).length = n := by simp [dealL]
theorem deal_at {p k : Nat} {x0 : Int} {R : List Int} {hold : Nat} {h : Int} (h1 : 1 ≤ h) (h2 : h ≤ (hold : Int)) : shAt (dealL p k [x0] R hold) (h.toNat - 1) = (h, [yOf p k x0 R h]) := by
  unfold shAt dealL
  rw [List.getD_eq_getElem?_getD, List.getElem?_map, List.getElem?_range (by omega)]
  show ((((h.toNat - 1 + 1 : Nat)) : Int), [dealV p k (h.toNat - 1 + 1) [x0] R 0]) = _
  rw [show h.toNat - 1 + 1 = h.toNat by omega, Int.toNat_of_nonneg (by omega)]
  rfl
/-- The shares that are seen. -/
def seenL (p k : Nat) (x0 : Int) (R : List Int) (H : List Int) (n : Nat) : List Sh := (H.take n).map fun h => (h, [yOf p k x0 R h])
theorem seenL_succ (p k : Nat) (x0 : Int) (R H : List Int) (n : Nat) (h : n < H.length) : seenL p k x0 R H (n + 1) = seenL p k x0 R H n ++ [(H.getD n 0, [yOf p k x0 R (H.getD n 0)])] := by
  unfold seenL
  rw [List.take_succ_eq_append_getElem h, List.map_append, List.getD_eq_getElem?_getD, List.getElem?_eq_getElem h]; rfl
theorem seenL_len (p k : Nat) (x0 : Int) (R H : List Int) (n : Nat) (h : n ≤ H.length) : (seenL p k x0 R H n).length = n := by unfold seenL; rw [List.length_map, List.length_take]; omega
theorem seenL_at (p k : Nat) (x0 : Int) (R H : List Int) (i : Nat) (h : i < H.length) : shAt (seenL p k x0 R H H.length) i = (H.getD i 0, [yOf p k x0 R (H.getD i 0)]) := by
  unfold shAt seenL
  rw [List.take_length, List.getD_eq_getElem?_getD, List.getElem?_map, List.getElem?_eq_getElem h, List.getD_eq_getElem?_getD, List.getElem?_eq_getElem h]; rfl
theorem noVals_at (H : List Int) (i : Nat) (h : i < H.length) : shAt (noVals H H.length) i = (H.getD i 0, []) := by
  unfold shAt noVals
  rw [List.take_length, List.getD_eq_getElem?_getD, List.getElem?_map, List.getElem?_eq_getElem h, List.getD_eq_getElem?_getD, List.getElem?_eq_getElem h]; rfl
/-- The entry of the view. -/
def pwE (p k : Nat) (x0 : Int) (R H : List Int) : SeenS := ⟨0, 0, 1, 0, 0, noVals H H.length, seenL p k x0 R H H.length⟩
theorem pwE_good {p k hold sz : Nat} {x0 : Int} {R H : List Int} (hp : 1 ≤ p) (h : PwH hold sz H) (hh : hold = 3 ∨ hold = 4) (hs : sz ≤ 2) : GoodV p hold H [pwE p k x0 R H] := by
  refine ⟨h.ris hh hs, fun i hi => ?_, fun i h0 hi => ?_⟩
  · have hi1 : i < 1 := hi
    obtain rfl : i = 0 := by omega
    have e : seeL [pwE p k x0 R H] 0 = pwE p k x0 R H := rfl
    rw [e]
    refine ⟨rfl, (by show (0 : Nat) ≤ 16384; omega), by show cntG p 0 ≤ 2048; rw [cntG_zero]; omega, .inr ⟨.inl rfl, ⟨by show (noVals H H.length).length = H.length; exact noVals_len H _ (Nat.le_refl _), fun i hi => ?_⟩, ⟨by show (seenL p k x0 R H H.length).length = H.length; exact seenL_len p k x0 R H _ (Nat.le_refl _), fun i hi => ?_⟩⟩⟩
    · have hi2 : i < H.length := by have : i < (noVals H H.length).length := hi; rwa [noVals_len H _ (Nat.le_refl _)] at this
      show StandO p _ _ (shAt (noVals H H.length) i)
      rw [noVals_at H i hi2]
      exact ⟨rfl, by show ((0 : Nat) : Int) = ((cntG p 0 : Nat) : Int); rw [cntG_zero], fun q hq => absurd hq (Nat.not_lt_zero q)⟩
    · have hi2 : i < H.length := by have : i < (seenL p k x0 R H H.length).length := hi; rwa [seenL_len p k x0 R H _ (Nat.le_refl _)] at this
      show StandO p _ _ (shAt (seenL p k x0 R H H.length) i)
      rw [seenL_at p k x0 R H i hi2]
      refine ⟨rfl, rfl, fun q hq => ?_⟩
      have hq1 : q < 1 := hq
      obtain rfl : q = 0 := by omega
      exact yOf_bd hp
  · have hi1 : i < 1 := hi
    omega
theorem pwE_ways {p k sz : Nat} {x0 : Int} {R H : List Int} (hp : p ≤ 11) (hk : k ≤ 2) (hs : H.length = sz) : pw 1000003 p ((k + 1 - 1 - H.length) * valN p [pwE p k x0 R H] 1) = p ^ (k - sz) := by
  have e : valN p [pwE p k x0 R H] 1 = 1 := by
    show 0 + (cntG p 0 + 1) = 1
    rw [cntG_zero]
  rw [e, hs, Nat.mul_one, Nat.add_sub_cancel]
  unfold pw
  apply Nat.mod_eq_of_lt
  have h1 : p ^ (k - sz) ≤ 11 ^ (k - sz) := Nat.pow_le_pow_left hp _
  have h2 : 11 ^ (k - sz) ≤ 11 ^ 2 := Nat.pow_le_pow_right (by omega) (by omega)
  omega
/-- Whom and what they have seen. -/
def pairL (p k : Nat) (x0 : Int) (R H : List Int) (n : Nat) : List (Nat × Nat) := (H.take n).map fun h => (h.toNat, (yOf p k x0 R h).toNat)
theorem pairL_len (p k : Nat) (x0 : Int) (R H : List Int) (n : Nat) (h : n ≤ H.length) : (pairL p k x0 R H n).length = n := by unfold pairL; rw [List.length_map, List.length_take]; omega
theorem pairL_succ (p k : Nat) (x0 : Int) (R H : List Int) (n : Nat) (h : n < H.length) : pairL p k x0 R H (n + 1) = pairL p k x0 R H n ++ [((H.getD n 0).toNat, (yOf p k x0 R (H.getD n 0)).toNat)] := by
  unfold pairL
  rw [List.take_succ_eq_append_getElem h, List.map_append, List.getD_eq_getElem?_getD, List.getElem?_eq_getElem h]; rfl
theorem hit_snoc (p k s r : Nat) (x : Nat × Nat) : ∀ l : List (Nat × Nat), hitN p k s r (l ++ [x]) = (hitN p k s r l && Nat.beq (evN p x.1 (s :: rndN p k r)) x.2)
  | [] => by
    obtain ⟨h, y⟩ := x
    show (Nat.beq (evN p h (s :: rndN p k r)) y && true) = (true && _)
    simp
  | (h, y) :: l => by
    show (Nat.beq (evN p h (s :: rndN p k r)) y && hitN p k s r (l ++ [x])) = ((Nat.beq (evN p h (s :: rndN p k r)) y && hitN p k s r l) && _)
    rw [hit_snoc p k s r x l, Bool.and_assoc]
theorem pairL_good {p k hold sz : Nat} {x0 : Int} {R H : List Int} (hp : 1 ≤ p) (h : PwH hold sz H) (hh : hold = 3 ∨ hold = 4) (hs : sz ≤ 2) : PwL p (pairL p k x0 R H H.length) := by
  have hy := fun h => yOf_bd (p := p) (k := k) (x0 := x0) (R := R) (h := h) hp
  have ha := h.all hh hs
  have hc := h.2
  have hl := h.1
  unfold pairL
  rw [List.take_length]
  match H, ha, hc, hl with
  | [], _, _, _ => trivial
  | [a], ha, _, _ =>
    have h0 := ha 0 (by simp)
    have e : [a].getD 0 0 = a := rfl
    rw [e] at h0
    have := hy a
    show 1 ≤ a.toNat ∧ a.toNat ≤ 4 ∧ (yOf p k x0 R a).toNat < p
    omega
  | [a, b], ha, hc, _ =>
    have h0 := ha 0 (by simp)
    have h1 := ha 1 (by simp)
    have h2 := (hc 1 (by simp)).2.2 (by omega)
    have e0 : [a, b].getD 0 0 = a := rfl
    have e1 : [a, b].getD 1 0 = b := rfl
    rw [e0] at h0
    rw [e1] at h1
    rw [show 1 - 1 = 0 from rfl, e0, e1] at h2
    have := hy a
    have := hy b
    show 1 ≤ a.toNat ∧ a.toNat < b.toNat ∧ b.toNat ≤ 4 ∧ (yOf p k x0 R b).toNat < p ∧ (yOf p k x0 R a).toNat < p
    omega
  | a :: b :: c :: l, _, _, hl => simp at hl; omega
/-- The share that is dealt for other numbers is the same just if the count says so. -/
theorem hit_share {p k s r : Nat} {x0 : Int} {R : List Int} {h : Int} (hp : 1 ≤ p) (hk : k = 1 ∨ k = 2) : (yOf p k (s : Int) ((rndN p k r).map Int.ofNat) h = yOf p k x0 R h) ↔ Nat.beq (evN p h.toNat (s :: rndN p k r)) (yOf p k x0 R h).toNat = true := by
  have e : yOf p k (s : Int) ((rndN p k r).map Int.ofNat) h = ((evN p h.toNat (s :: rndN p k r) : Nat) : Int) := dealV_evN p k h.toNat s r hk
  have := yOf_bd (p := p) (k := k) (x0 := x0) (R := R) (h := h) hp
  rw [e]
  constructor
  · intro h1
    rw [← h1]
    simp
  · intro h1
    have := Nat.eq_of_beq_eq_true h1
    omega
theorem SeensAt.one {W : World} {g : Nat} {s : SeenS} {u v : Value} (h : Blk W g 39 #[.int .i64 s.num, .int .i64 s.time, .int .i64 s.st, .int .i64 s.len, .int .i64 s.ep, u, v]) (hu : ShAt W (· < W.heap.size) u s.boxes) (hv : ShAt W (· < W.heap.size) v s.who) : SeensAt W (· < W.heap.size) (.slice (some ⟨g, 0, none⟩) 1 1) [s] :=
  ⟨_, 1, 1, rfl, rfl, Nat.le_refl _, fun _ => ⟨g, 0, rfl, h.lt, fun k hk => by
    obtain rfl : k = 0 := by omega
    exact ⟨u, v, h.cell 0, h.cell 1, h.cell 2, h.cell 3, h.cell 4, h.cell 5, h.cell 6, hu, hv⟩⟩⟩
/-- Ways of the law's view. -/
theorem pw_ways {p k hold sz : Nat} {x0 : Int} {R H : List Int} (hpk : PwP p k) (hh : hold = 3 ∨ hold = 4) (hs : sz < k + 1) (hH : PwH hold sz H) (hl : H.length = sz) (A6 : Option Addr) (c6 g : Nat) (W : World) (hw : BasesOk W) (h6 : IntsAt W (· < W.heap.size) (.slice A6 sz c6) H) (hE : SeensAt W (· < W.heap.size) (.slice (some ⟨g, 0, none⟩) 1 1) [pwE p k x0 R H]) :
    Calls Tryz.prog 12 #[.agg #[.int .i64 (p : Int), .int .i64 ((k : Int) + 1), .int .i64 (hold : Int)], .agg #[.slice A6 sz c6, .slice (some ⟨g, 0, none⟩) 1 1, .slice none 0 0, .slice none 0 0]] W (WaysE (p ^ (k - sz)) 0 W) := by
  have hb := hpk.lt
  have h := q_WaysT p (k + 1) hold A6 (some ⟨g, 0, none⟩) none none sz c6 1 1 0 0 0 0 H [pwE p k x0 R H] W hw ⟨hpk.prm, by omega, by omega, by omega, by omega, by omega⟩ h6 hE (by omega) (by show 1 ≤ 10000; omega) (pwE_good (by omega) hH hh (by omega)) (fun q hq => by
    have hq1 : q < 1 := hq
    obtain rfl : q = 0 := by omega
    show (1 : Int) ≠ 2
    decide)
  rw [show [pwE p k x0 R H].length = 1 from rfl, pwE_ways (by omega) (by omega) hl] at h
  exact h
theorem below_to {d : Nat} {w W : World} (h : Below d w W) (hd : w.heap.size = d) : Below w.heap.size w W := hd ▸ h
/-- Two shares of one holder with one value each. -/
theorem same_one (h a b : Int) (v u : Value) (w : World) (hv : ShAt w (· < w.heap.size) v [(h, [a])]) (hu : ShAt w (· < w.heap.size) u [(h, [b])]) :
    Calls Tryz.prog 13 #[v, u] w (BoolBelow (decide (a = b)) w) := by
  by_cases e : a = b
  · subst e
    rw [decide_eq_true rfl]
    exact r_SameSh v u [(h, [a])] _ _ w hv hu (fun _ h => h) (fun _ h => h) (by show 1 ≤ 1000; omega) (fun k hk => by
      have hk1 : k < 1 := hk
      obtain rfl : k = 0 := by omega
      show 1 ≤ 1000000; omega)
  · rw [decide_eq_false e]
    exact r_SameNe v u [(h, [a])] [(h, [b])] _ _ w hv hu (fun _ h => h) (fun _ h => h) rfl rfl (by show 1 ≤ 1000000; omega) (by show 1 ≤ 1000000; omega) rfl (fun h2 => e (by
      have h3 : [a] = [b] := h2
      injection h3))
/-- The counting, while the law runs. -/
theorem hit_next {p k s r : Nat} {x0 : Int} {R H : List Int} {i : Nat} (hp : 1 ≤ p) (hk : k = 1 ∨ k = 2) (hi : i < H.length) :
    hitN p k s r (pairL p k x0 R H (i + 1)) = (hitN p k s r (pairL p k x0 R H i) && decide (yOf p k (s : Int) ((rndN p k r).map Int.ofNat) (H.getD i 0) = yOf p k x0 R (H.getD i 0))) := by
  rw [pairL_succ p k x0 R H i hi, hit_snoc]
  congr 1
  have := hit_share (p := p) (k := k) (s := s) (r := r) (x0 := x0) (R := R) (h := H.getD i 0) hp hk
  cases hb : Nat.beq (evN p (H.getD i 0).toNat (s :: rndN p k r)) (yOf p k x0 R (H.getD i 0)).toNat with
  | true => exact (decide_eq_true (this.2 hb)).symm
  | false => exact (decide_eq_false (fun h => by rw [this.1 h] at hb; cases hb)).symm
def PwG (w0 : World) (p k r : Nat) (x : Value) (W : World) : Prop := IntsAt W (· < W.heap.size) x ((rndN p k r).map Int.ofNat) ∧ Below w0.heap.size w0 W
theorem en_same6 : EnterF Tryz.prog 13 := enterF_of Tryz.func13 (by kernel_rfl) (by kernel_rfl)
end Go.Proofs.YtgeahbmaeaoeeaaGreatDoor
