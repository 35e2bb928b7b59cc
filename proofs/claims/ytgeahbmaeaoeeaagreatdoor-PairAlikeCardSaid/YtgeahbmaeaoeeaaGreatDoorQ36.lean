/- Contracts: whether numbers are a field's elements (at any numbers). Contracts of the kit: plans and elements by the dice. Contracts: the reference's copy of shares; the kit's turn of them. The contract of the kit's turn of shares. Contracts: what parts give together. -/
import Derived.Test.YtgeahbmaeaoeeaaGreatDoorQ35
import Derived.Test.YtgeahbmaeaoeeaaGreatDoorQ34
import Derived.Test.YtgeahbmaeaoeeaaGreatDoorQ08
import Derived.Lib.Repeat
import Derived.Test.YtgeahbmaeaoeeaaGreatDoorQ03
import Derived.Lib.Builder
import Derived.Lib.UnsafeStr
import Derived.Lib.FrozenHead2
import Derived.Deep.RegionHeld3
import Derived.Test.YtgeahbmaeaoeeaaGreatDoorQ04
import Derived.Lib.ConvBytes
import Derived.OwnWalk
import Derived.Laws.OwnMore
set_option linter.unusedVariables false
set_option linter.unusedSimpArgs false
namespace Go.Proofs.YtgeahbmaeaoeeaaGreatDoor
open Go.RowKit Num

set_option maxRecDepth 100000 in
set_option maxHeartbeats 1000000 in
/-- val: what field.Valid says. -/
theorem c_Elements (p : Int) (val : Bool) (v : Value) (xs : List Int) (S : Nat → Prop) (w : World) (hv : IntsAt w S v xs) (hl : xs.length ≤ 1000000)
    (hval : Calls Tryz.prog 63 #[.int .i64 p] w fun e w' => e = .returned (.bool val) ∧ w = w') :
    Calls Tryz.prog 118 #[.int .i64 p, v] w fun e w' => ∃ b : Bool, e = .returned (.bool b) ∧ (b = true ↔ (∀ i, i < xs.length → 0 ≤ xs.getD i 0 ∧ xs.getD i 0 < p) ∧ val = true) ∧ w = w' := by
  obtain ⟨A, n, ca, rfl, hn, hnc, hcc⟩ := id hv
  rw [← hn] at hl ⊢
  have HCC := Lib.hid hcc
  have HV := Lib.hid hval
  clear hv hn hcc hval
  go_enter Tryz.func118, Tryz.ntmps118
  go_wp2_with fail
  go_loopw [9] (fun t wr => ∃ i : Nat, i ≤ n ∧ t = .int .i64 i ∧ (∀ j, j < i → 0 ≤ xs.getD j 0 ∧ xs.getD j 0 < p) ∧ w = wr) (fun t _ => n - (intOf t).toNat)
  case atStart => exact ⟨0, by omega, rfl, fun j hj => absurd hj (Nat.not_lt_zero j), rfl⟩
  case round =>
    obtain ⟨i, hin, rfl, hz, rfl⟩ := hrel
    have HZ := Lib.hid hz
    clear hz
    by_cases hlt : i < n
    · obtain ⟨b, off, rfl, _, hc⟩ := HCC.out (by omega)
      have cx := hc i hlt
      obtain ⟨x, hx⟩ : ∃ x, xs.getD i 0 = x := ⟨_, rfl⟩
      rw [hx] at cx
      have HX := Lib.hid hx
      have qi : (i : Int) < (n : Int) := by omega
      have qi0 : (0 : Int) ≤ (i : Int) := by omega
      clear hx hc
      by_cases h0 : x < 0
      · have HE := Lib.hid h0
        have t1 : decide (x < 0) = true := decide_eq_true h0
        clear h0
        go_wp2_with fail
        go_ret
        exact ⟨false, rfl, ⟨fun h => by simp at h, fun h => absurd (h.1 i hlt).1 (by rw [HX.out]; have := HE.out; omega)⟩, rfl⟩
      · have t1 : decide (x < 0) = false := decide_eq_false h0
        by_cases h1 : p ≤ x
        · have HE := Lib.hid h1
          have t2 : decide (p ≤ x) = true := decide_eq_true h1
          clear h1 h0
          go_wp2_with fail
          go_ret
          exact ⟨false, rfl, ⟨fun h => by simp at h, fun h => absurd (h.1 i hlt).2 (by rw [HX.out]; have := HE.out; omega)⟩, rfl⟩
        · have HE := Lib.hid h1
          have HE0 := Lib.hid h0
          have t2 : decide (p ≤ x) = false := decide_eq_false h1
          clear h1 h0
          go_wp2_with fail
          go_roundw
          case measure => simp [intOf]; omega
          case rel => exact ⟨i + 1, by omega, by go_num, (fun j hj => by
            rcases Nat.lt_or_ge j i with h | h
            · exact HZ.out j h
            · rw [show j = i by omega, HX.out]
              have := HE.out
              have := HE0.out
              omega), by first | rfl | trivial⟩
    · have hi' : i = n := by omega
      subst hi'
      go_wp2_with fail
      refine HV.out.mono ?_
      rintro e w' ⟨rfl, rfl⟩
      go_wp2_with fail
      go_ret
      exact ⟨val, rfl, ⟨fun h => ⟨HZ.out, h⟩, fun h => h.2⟩, rfl⟩
end Go.Proofs.YtgeahbmaeaoeeaaGreatDoor
namespace Go.Proofs.YtgeahbmaeaoeeaaGreatDoor
open Go.RowKit Num

def PlanPost (b p : Nat) (w : World) (e : Ending) (w' : World) : Prop :=
  ∃ need hold : Nat, 1 ≤ need ∧ need ≤ hold ∧ hold ≤ 7 ∧ hold < p ∧ e = .returned (planV p need hold) ∧ Dc w' b ∧ w.grownBy w' (some b)
def ElemPost (b p n : Nat) (w : World) (e : Ending) (w' : World) : Prop :=
  ∃ v xs, e = .returned v ∧ IntsAt w' (fun g => w.heap.size ≤ g ∧ g < w'.heap.size) v xs ∧ xs.length = n ∧ InF p xs ∧ Dc w' b ∧ w.grownBy w' (some b)
theorem InF.snoc {p : Nat} {xs : List Int} {y : Int} (h : InF p xs) (h0 : 0 ≤ y) (h1 : y < p) : InF p (xs ++ [y]) := by
  intro k hk
  rcases Nat.lt_or_ge k xs.length with hl | hl
  · have := h k hl; rwa [List.getD_eq_getElem?_getD, List.getElem?_append_left hl, ← List.getD_eq_getElem?_getD]
  · have hk2 : k = xs.length := by simp at hk; omega
    subst hk2
    rw [List.getD_eq_getElem?_getD, List.getElem?_append_right (Nat.le_refl _)]; simpa using ⟨h0, h1⟩
theorem k_ModE (p : Nat) (x : Int) (w : World) (h1 : 1 ≤ p) (h2 : p ≤ 1073741824) :
    Calls Tryz.prog 21 #[.int .i64 x, .int .i64 (p : Int)] w fun e w' => ∃ y : Int, 0 ≤ y ∧ y < p ∧ e = .returned (.int .i64 y) ∧ w = w' :=
  (k_Mod x p w (by omega) (by omega)).mono fun e w' ⟨he, hw⟩ => ⟨x % p, Int.emod_nonneg _ (by omega), Int.emod_lt_of_pos _ (by omega), he, hw⟩
end Go.Proofs.YtgeahbmaeaoeeaaGreatDoor
namespace Go.Proofs.YtgeahbmaeaoeeaaGreatDoor
open Go.RowKit Num

def CopyPost (L : List Sh) (w : World) (e : Ending) (w' : World) : Prop := ∃ v, e = .returned v ∧ OwnSh w' w.heap.size v L ∧ Below w.heap.size w w'
theorem take_snoc_sh (L : List Sh) (k : Nat) (h : k < L.length) : L.take (k + 1) = L.take k ++ [shAt L k] := by
  rw [List.take_succ_eq_append_getElem h]
  congr 2
  unfold shAt; rw [List.getD_eq_getElem?_getD, List.getElem?_eq_getElem h]; rfl
/-- Some of the shares, each at most once. -/
def Some_ (L L' : List Sh) : Prop := ∃ σ : Nat → Nat, (∀ k, k < L'.length → σ k < L.length ∧ shAt L' k = shAt L (σ k)) ∧ ∀ i j, i < L'.length → j < L'.length → i ≠ j → σ i ≠ σ j
/-- The list that a choice of places gives. -/
def pick (L : List Sh) (σ : Nat → Nat) (n : Nat) : List Sh := (List.range n).map fun k => shAt L (σ k)
theorem pick_len (L : List Sh) (σ : Nat → Nat) (n : Nat) : (pick L σ n).length = n := by simp [pick]
theorem pick_at (L : List Sh) (σ : Nat → Nat) (n k : Nat) (h : k < n) : shAt (pick L σ n) k = shAt L (σ k) := by
  unfold pick shAt
  rw [List.getD_eq_getElem?_getD, List.getElem?_map, List.getElem?_range h]; rfl
def TurnPost (b : Nat) (L : List Sh) (least : Nat) (w : World) (e : Ending) (w' : World) : Prop :=
  ∃ v L', e = .returned v ∧ ShAt w' (fun g => w.heap.size ≤ g ∧ g < w'.heap.size) v L' ∧ least ≤ L'.length ∧ L'.length ≤ L.length ∧ Some_ L L' ∧ Dc w' b ∧ w.grownBy w' (some b)
/-- Shares in a block: by a choice of places. -/
def InB (w : World) (g B : Nat) (L : List Sh) (σ : Nat → Nat) (n : Nat) : Prop := ∃ cs : Array Value, Blk w g 36 cs ∧
  ∀ k, k < n → ∃ u, cs[2 * k]? = some (.int .i64 (shAt L (σ k)).1) ∧ cs[2 * k + 1]? = some u ∧ IntsAt w (fun b => B ≤ b ∧ b < w.heap.size ∧ b ≠ g) u (shAt L (σ k)).2
def swp (σ : Nat → Nat) (i k : Nat) : Nat → Nat := fun j => if j = i then σ k else if j = k then σ i else σ j
theorem swp_inj {σ : Nat → Nat} {n i k : Nat} (hi : i < n) (hk : k < n) (h : ∀ a b, a < n → b < n → a ≠ b → σ a ≠ σ b) : ∀ a b, a < n → b < n → a ≠ b → swp σ i k a ≠ swp σ i k b := by
  intro a b ha hb hne
  unfold swp
  by_cases a1 : a = i <;> by_cases a2 : a = k <;> by_cases b1 : b = i <;> by_cases b2 : b = k <;> simp only [a1, a2, b1, b2, if_true, if_false, ite_self] <;> first | (exfalso; omega) | (apply h <;> omega) | (split <;> first | (exfalso; omega) | (apply h <;> omega) | (split <;> first | (exfalso; omega) | (apply h <;> omega)))
theorem swp_lt {σ : Nat → Nat} {n m i k : Nat} (hi : i < n) (hk : k < n) (h : ∀ a, a < n → σ a < m) : ∀ a, a < n → swp σ i k a < m := by
  intro a ha
  unfold swp
  split
  · exact h _ hk
  · split
    · exact h _ hi
    · exact h _ ha
theorem OwnSh.inB {w : World} {B : Nat} {v : Value} {L : List Sh} (h : OwnSh w B v L) (h0 : 0 < L.length) : ∃ g cap, v = .slice (some ⟨g, 0, none⟩) L.length cap ∧ L.length ≤ cap ∧ B ≤ g ∧ g < w.heap.size ∧ InB w g B L id L.length := by
  obtain ⟨cells, hr, hk⟩ := h
  rcases id hr.2 with ⟨rfl, h0'⟩ | ⟨g, cap, cur, rfl, hB, hh, hnc, hm, hs, ht⟩
  · omega
  · refine ⟨g, cap, rfl, hnc, hB, (Array.getElem?_eq_some_iff.1 hh).1, cur, hh, fun k hk' => ?_⟩
    obtain ⟨u, h1, h2, h3⟩ := hk k hk'
    have hcu : ∀ j x, cells[j]? = some x → cur[j]? = some x := fun j x hx => by
      have hc := hr.cells (g := g) rfl j x hx
      have ha : (⟨g, 0, none⟩ : Addr).add j = ⟨g, j, none⟩ := by unfold Addr.add; split <;> simp_all
      rw [ha] at hc
      rw [← hc]
      exact (cell_of_row w g j cur _ (0, 0) hh).symm
    refine ⟨u, hcu _ _ h1, hcu _ _ h2, ?_⟩
    have hne := own_blk_ne (t := 36) (g := g) (cs := cur) h3 hh (by decide)
    have hi := IntsAt.of_own h3
    obtain ⟨A, n, c, rfl, e2, e3, e4⟩ := hi
    refine ⟨A, n, c, rfl, e2, e3, fun hn => ?_⟩
    obtain ⟨b, off, rfl, hS, hc⟩ := e4 hn
    refine ⟨b, off, rfl, ⟨hS.1, hS.2, fun e => ?_⟩, hc⟩
    subst e
    rcases h3.2 with ⟨hv, _⟩ | ⟨g', cap', cur', hv, _⟩
    · injection hv with hv; cases hv
    · injection hv with hv
      injection hv with hv
      injection hv with hv
      subst hv
      exact hne rfl
theorem InB.at_ {w : World} {g B : Nat} {L : List Sh} {σ : Nat → Nat} {n cap : Nat} (h : InB w g B L σ n) (hB : B ≤ g) (hnc : n ≤ cap) : ShAt w (fun b => B ≤ b ∧ b < w.heap.size) (.slice (some ⟨g, 0, none⟩) n cap) (pick L σ n) := by
  obtain ⟨cs, hb, hk⟩ := h
  refine ⟨_, n, cap, rfl, (pick_len _ _ _).symm, hnc, fun hn => ⟨g, 0, rfl, ⟨hB, hb.lt⟩, fun k hk' => ?_⟩⟩
  obtain ⟨u, h1, h2, h3⟩ := hk k hk'
  rw [pick_at L σ n k hk']
  refine ⟨u, ?_, ?_, h3.mono fun b hb => ⟨hb.1, hb.2.1⟩⟩
  · rw [hb.cell, Nat.zero_add, Nat.mul_comm]; exact h1
  · rw [hb.cell, Nat.zero_add, Nat.mul_comm]; exact h2
theorem InB.grown {w w' : World} {g B d : Nat} {L : List Sh} {σ : Nat → Nat} {n : Nat} (h : InB w g B L σ n) (hg : w.grownBy w' (some d)) (hd : d < B) (hB : B ≤ g) : InB w' g B L σ n := by
  obtain ⟨cs, hb, hk⟩ := h
  refine ⟨cs, hb.grown hg (by intro e; injection e; omega), fun k hk' => ?_⟩
  obtain ⟨u, h1, h2, h3⟩ := hk k hk'
  refine ⟨u, h1, h2, (h3.keep fun b hb => hg.block b hb.2.1 (by intro e; injection e; omega)).mono fun b hb => ⟨hb.1, ?_, hb.2.2⟩⟩
  have := hg.size; omega
/-- Two shares change their places. -/
theorem InB.swap {w w' : World} {g B : Nat} {L : List Sh} {σ : Nat → Nat} {n i k : Nat} {cs : Array Value} {ui uk : Value} (hb : Blk w g 36 cs)
    (h : ∀ q, q < n → ∃ u, cs[2 * q]? = some (.int .i64 (shAt L (σ q)).1) ∧ cs[2 * q + 1]? = some u ∧ IntsAt w (fun b => B ≤ b ∧ b < w.heap.size ∧ b ≠ g) u (shAt L (σ q)).2)
    (hi : i < n) (hk : k < n) (ci : cs[2 * i + 1]? = some ui) (ck : cs[2 * k + 1]? = some uk)
    (hw : w' = (((w.setCell ⟨g, 2 * i, none⟩ (.int .i64 (shAt L (σ k)).1)).setCell ⟨g, 2 * i + 1, none⟩ uk).setCell ⟨g, 2 * k, none⟩ (.int .i64 (shAt L (σ i)).1)).setCell ⟨g, 2 * k + 1, none⟩ ui) : InB w' g B L (swp σ i k) n := by
  have hkeep : ∀ b, b ≠ g → w'.heap[b]? = w.heap[b]? := fun b hne => by
    rw [hw, Below.heap_setCell _ _ _ _ (by simpa using hne), Below.heap_setCell _ _ _ _ (by simpa using hne), Below.heap_setCell _ _ _ _ (by simpa using hne), Below.heap_setCell _ _ _ _ (by simpa using hne)]
  have hsz : w'.heap.size = w.heap.size := by rw [hw]; simp [World.setCell]
  obtain ⟨u1, i1, i2, i3⟩ := h i hi
  obtain ⟨u2, k1, k2, k3⟩ := h k hk
  have e1 : u1 = ui := by rw [i2] at ci; exact Option.some.inj ci
  have e2 : u2 = uk := by rw [k2] at ck; exact Option.some.inj ck
  subst e1 e2
  have li : 2 * i + 1 < cs.size := by have := (Array.getElem?_eq_some_iff.1 i2).1; omega
  have lk : 2 * k + 1 < cs.size := by have := (Array.getElem?_eq_some_iff.1 k2).1; omega
  have hb' := (((hb.set_ (2 * i) (.int .i64 (shAt L (σ k)).1)).set_ (2 * i + 1) u2).set_ (2 * k) (.int .i64 (shAt L (σ i)).1)).set_ (2 * k + 1) u1
  rw [← hw] at hb'
  have mv : ∀ u xs, IntsAt w (fun b => B ≤ b ∧ b < w.heap.size ∧ b ≠ g) u xs → IntsAt w' (fun b => B ≤ b ∧ b < w'.heap.size ∧ b ≠ g) u xs := fun u xs hx => by
    rw [hsz]; exact hx.keep fun b hb => hkeep b hb.2.2
  refine ⟨_, hb', fun q hq => ?_⟩
  obtain ⟨u, q1, q2, q3⟩ := h q hq
  simp only [Array.getElem?_setIfInBounds, Array.size_setIfInBounds]
  unfold swp
  by_cases hqk : q = k
  · subst hqk
    by_cases hqi : q = i
    · subst hqi
      refine ⟨u1, ?_, ?_, ?_⟩
      · rw [if_neg (by omega), if_pos rfl, if_pos (by omega), if_pos rfl]
      · rw [if_pos rfl, if_pos (by omega)]
      · rw [if_pos rfl]; exact mv _ _ i3
    · refine ⟨u1, ?_, ?_, ?_⟩
      · rw [if_neg (by omega), if_pos rfl, if_pos (by omega), if_neg hqi, if_pos rfl]
      · rw [if_pos rfl, if_pos (by omega)]
      · rw [if_neg hqi, if_pos rfl]; exact mv _ _ i3
  · by_cases hqi : q = i
    · subst hqi
      refine ⟨u2, ?_, ?_, ?_⟩
      · rw [if_neg (by omega), if_neg (by omega), if_neg (by omega), if_pos rfl, if_pos (by omega), if_pos rfl]
      · rw [if_neg (by omega), if_neg (by omega), if_pos rfl, if_pos (by omega)]
      · rw [if_pos rfl]; exact mv _ _ k3
    · refine ⟨u, ?_, ?_, ?_⟩
      · rw [if_neg (by omega), if_neg (by omega), if_neg (by omega), if_neg (by omega), if_neg hqi, if_neg hqk]; exact q1
      · rw [if_neg (by omega), if_neg (by omega), if_neg (by omega), if_neg (by omega)]; exact q2
      · rw [if_neg hqi, if_neg hqk]; exact mv _ _ q3
end Go.Proofs.YtgeahbmaeaoeeaaGreatDoor
namespace Go.Proofs.YtgeahbmaeaoeeaaGreatDoor
open Go.RowKit Num

theorem blk_some {w : World} {g j : Nat} {t : TypeId} {cs : Array Value} (h : Blk w g t cs) (hj : j < cs.size) : ∃ y, w.cell? ⟨g, j, none⟩ = some y := ⟨cs[j], by rw [h.cell, Array.getElem?_eq_getElem hj]⟩
end Go.Proofs.YtgeahbmaeaoeeaaGreatDoor
namespace Go.Proofs.YtgeahbmaeaoeeaaGreatDoor
open Go.RowKit Num

def hsOf (L : List Sh) : List Int := L.map (·.1)
def vOf (L : List Sh) (k : Nat) : Nat := ((shAt L k).2.getD 0 0).toNat
/-- The product of parts to the powers of their weights. -/
def hAt (p : Nat) (L : List Sh) (x : Int) : Nat → Nat
  | 0 => 1
  | k + 1 => hAt p L x k * pw (2 * p + 1) (vOf L k) (wt p (fOf (hsOf L)) L.length k x).toNat % (2 * p + 1)
theorem hAt_lt (p : Nat) (L : List Sh) (x : Int) (hp : 1 ≤ p) : ∀ k, hAt p L x k < 2 * p + 1 := by
  intro k
  cases k with
  | zero => show 1 < _; omega
  | succ k => exact Nat.mod_lt _ (by omega)
theorem wt_bd (p : Nat) (xs : Nat → Int) (n i : Nat) (x : Int) (hp : 1 ≤ p) : 0 ≤ wt p xs n i x ∧ wt p xs n i x < p :=
  ⟨Int.emod_nonneg _ (by omega), Int.emod_lt_of_pos _ (by omega)⟩
theorem hsOf_get (L : List Sh) (k : Nat) (h : k < L.length) : fOf (hsOf L) k = (shAt L k).1 := by
  unfold fOf hsOf shAt
  rw [List.getD_eq_getElem?_getD, List.getElem?_map, List.getD_eq_getElem?_getD, List.getElem?_eq_getElem h]; rfl
/-- Shares that may be parts: holders of the plan, each once, one value each, below the modulus. -/
structure PartsOk (p hold : Nat) (L : List Sh) : Prop where
  holder : ∀ k, k < L.length → 1 ≤ (shAt L k).1 ∧ (shAt L k).1 ≤ hold
  once : ∀ i j, i < L.length → j < L.length → i ≠ j → (shAt L i).1 ≠ (shAt L j).1
  one : ∀ k, k < L.length → (shAt L k).2.length = 1
  grp : ∀ k, k < L.length → inG p (2 * p + 1) ((shAt L k).2.getD 0 0) = true
theorem inG_bd {p m : Nat} {x : Int} (h : inG p m x = true) : 0 < x ∧ x < m := by
  simp only [inG, decide_eq_true_eq] at h; exact ⟨h.1, h.2.1⟩
theorem PartsOk.apart {p hold : Nat} {L : List Sh} (h : PartsOk p hold L) (hp : hold < p) : ApartN p (fOf (hsOf L)) (hsOf L).length := by
  intro i j hi hj hne hd
  have hl : (hsOf L).length = L.length := by simp [hsOf]
  rw [hl] at hi hj
  rw [hsOf_get L i hi, hsOf_get L j hj] at hd
  have h1 := h.holder i hi
  have h2 := h.holder j hj
  have h3 := h.once i j hi hj hne
  obtain ⟨c, hc⟩ := hd
  rcases Int.lt_trichotomy c 0 with hc0 | hc0 | hc0
  · have : (p : Int) * c ≤ (p : Int) * (-1) := Int.mul_le_mul_of_nonneg_left (by omega) (by omega)
    omega
  · subst hc0; omega
  · have : (p : Int) * 1 ≤ (p : Int) * c := Int.mul_le_mul_of_nonneg_left (by omega) (by omega)
    omega
end Go.Proofs.YtgeahbmaeaoeeaaGreatDoor
