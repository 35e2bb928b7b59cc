/- Contracts: how many shares may be wrong; the values of shares at a place; whether shares are good in a plan. Contracts: how many bytes one element holds, how many elements bytes are, how many random numbers a circle needs. Plain numbers: bytes as elements of three bytes each. No program stands in it. -/
import Derived.Test.YtjfphobfikadlaaGreatDoorY09
import Derived.Test.YtjfphobfikadlaaGreatDoorY25
import Derived.Test.YtjfphobfikadlaaGreatDoorY14
set_option linter.unusedVariables false
set_option linter.unusedSimpArgs false
namespace Go.Proofs.YtjfphobfikadlaaGreatDoor
open Go.RowKit Num

/-- The values of shares at a place. -/
def colY (l : List Sh) (i : Nat) : List Int := l.map fun s => s.2.getD i 0
theorem colY_len (l : List Sh) (i : Nat) : (colY l i).length = l.length := by simp [colY]
theorem colY_get (l : List Sh) (i k : Nat) (h : k < l.length) : (colY l i).getD k 0 = (shAt l k).2.getD i 0 := by
  unfold colY shAt
  rw [List.getD_eq_getElem?_getD, List.getElem?_map, List.getD_eq_getElem?_getD (l := l), List.getElem?_eq_getElem h]; rfl
theorem hsOf_len (l : List Sh) : (hsOf l).length = l.length := by simp [hsOf]
/-- Shares that are good in a plan: holders of the plan, each once, equally many values, each an element. -/
structure GoodSh (p hold m : Nat) (l : List Sh) : Prop where
  holder : ∀ k, k < l.length → 1 ≤ (shAt l k).1 ∧ (shAt l k).1 ≤ hold
  once : ∀ i j, i < l.length → j < l.length → i ≠ j → (shAt l i).1 ≠ (shAt l j).1
  len : ∀ k, k < l.length → (shAt l k).2.length = m
  inF : ∀ k, k < l.length → InF p (shAt l k).2
theorem GoodSh.apart {p hold m : Nat} {l : List Sh} (h : GoodSh p hold m l) (hp : hold < p) : ApartN p (fOf (hsOf l)) (hsOf l).length := by
  intro i j hi hj hne hd
  rw [hsOf_len] at hi hj
  rw [hsOf_get l i hi, hsOf_get l j hj] at hd
  have h1 := h.holder i hi
  have h2 := h.holder j hj
  have := h.once i j hi hj hne
  have := Int.eq_zero_of_dvd_of_natAbs_lt_natAbs hd (by omega)
  omega
theorem GoodSh.dist {p hold m : Nat} {l : List Sh} (h : GoodSh p hold m l) : ∀ i j, i < (hsOf l).length → j < (hsOf l).length → i ≠ j → (hsOf l).getD i 0 ≠ (hsOf l).getD j 0 := by
  intro i j hi hj hne
  rw [hsOf_len] at hi hj
  have e1 := hsOf_get l i hi
  have e2 := hsOf_get l j hj
  unfold fOf at e1 e2
  rw [e1, e2]
  exact h.once i j hi hj hne
theorem GoodSh.hsF {p hold m : Nat} {l : List Sh} (h : GoodSh p hold m l) (hp : hold < p) : InF p (hsOf l) := by
  intro k hk
  rw [hsOf_len] at hk
  have e := hsOf_get l k hk
  unfold fOf at e
  have := h.holder k hk
  rw [e]; omega
theorem GoodSh.colF {p hold m : Nat} {l : List Sh} (h : GoodSh p hold m l) (i : Nat) (hi : i < m) : InF p (colY l i) := by
  intro k hk
  rw [colY_len] at hk
  rw [colY_get l i k hk]
  exact h.inF k hk i (by rw [h.len k hk]; exact hi)
def BoolBelow (b : Bool) (w : World) (e : Ending) (w' : World) : Prop := e = .returned (.bool b) ∧ Below w.heap.size w w'
set_option maxHeartbeats 400000 in
theorem s_Valid (p need hold : Nat) (w : World) (hw : BasesOk w) (hp : Prm p) (h2 : p ≤ 1073741824) (n1 : 1 ≤ need) (n2 : need ≤ hold) (n3 : hold ≤ 16) (n4 : hold < p) :
    Calls Tryz.prog 66 #[.agg #[.int .i64 (p : Int), .int .i64 (need : Int), .int .i64 (hold : Int)]] w (BoolBelow true w) := by
  have hw1 := fun o => hw.alloc o
  have t1 : decide ((1 : Int) ≤ (need : Int)) = true := decide_eq_true (by omega)
  have t2 : decide ((need : Int) ≤ (hold : Int)) = true := decide_eq_true (by omega)
  have t3 : decide ((hold : Int) ≤ 16) = true := decide_eq_true (by omega)
  have t4 : decide ((hold : Int) < (p : Int)) = true := decide_eq_true (by omega)
  go_enter Tryz.func66, Tryz.ntmps66
  go_wp2_with fail
  refine (f_Valid p _ (hw1 _) hp h2).mono ?_
  rintro e w' ⟨rfl, rfl⟩
  go_wp2_with fail
  go_ret
  exact ⟨rfl, (Below.refl _ _).alloc (Nat.le_refl _) _⟩

/-- Which holders have been seen among the first k shares. -/
def seenV (L : List Sh) (k : Nat) (j : Nat) : Value := .bool (decide (∃ i, i < k ∧ (shAt L i).1 = (j : Int)))
end Go.Proofs.YtjfphobfikadlaaGreatDoor
namespace Go.Proofs.YtjfphobfikadlaaGreatDoor
open Go.RowKit Num

set_option maxHeartbeats 400000 in
theorem c_Room (p need hold n : Nat) (w : World) (hp : p ≤ 2147483648) (hnn : need ≤ n) (hn : n ≤ 1000000) :
    Calls Tryz.prog 89 #[.agg #[.int .i64 (p : Int), .int .i64 (need : Int), .int .i64 (hold : Int)], .int .i64 (n : Int)] w fun e w' => e = .returned (.int .i64 (((n - need) / 2 : Nat) : Int)) ∧ Below w.heap.size w w' := by
  have t1 : decide ((n : Int) < (need : Int)) = false := decide_eq_false (by omega)
  go_enter Tryz.func89, Tryz.ntmps89
  go_wp2_with fail
  go_ret
  exact ⟨ret_int (by omega), (Below.refl _ _).alloc (Nat.le_refl _) _⟩

set_option maxRecDepth 100000 in
set_option maxHeartbeats 1000000 in
theorem c_Values (v : Value) (L : List Sh) (i : Nat) (S : Nat → Prop) (w : World) (hv : ShAt w S v L) (hS : ∀ b, S b → b < w.heap.size) (hl : L.length ≤ 1000) (hi : ∀ k, k < L.length → i < (shAt L k).2.length) :
    Calls Tryz.prog 95 #[v, .int .i64 (i : Int)] w (IntsPost (colY L i) w) := by
  obtain ⟨A, n, c, rfl, hn, hnc, hc⟩ := hv
  obtain ⟨i0, hin, hz0, hz1, hz2⟩ := info_parts infoI
  have hn1 : n ≤ 1000 := by omega
  rw [← hn] at hi
  have HN := Lib.hid hn
  have HI := Lib.hid hi
  have HC := Lib.hid hc
  have q0 : (0 : Int) ≤ (i : Int) := by omega
  clear hn hl hi hc
  go_enter Tryz.func95, Tryz.ntmps95
  go_wp2_with fail
  go_loopw [5, 10] (fun o t wr => ∃ k : Nat, k ≤ n ∧ t = .int .i64 k ∧ wr.ownsRow w.heap.size 3 1 o k ((colY (L.take k) i).map (Value.int .i64)) ∧ Below w.heap.size w wr) (fun _ t _ => n - (intOf t).toNat)
  case atStart => exact ⟨0, by omega, rfl, World.ownsRow_nil _ _ _ _, Below.refl _ _⟩
  case round =>
    obtain ⟨k, hk, rfl, hown, hbl⟩ := hrel
    have hsz := hbl.size
    by_cases hlt : k < n
    · obtain ⟨b, off, rfl, hSb, hcell⟩ := HC.out (by omega)
      obtain ⟨u, c0, c1, hu⟩ := hcell k hlt
      obtain ⟨Au, nu, cu, rfl, e1, e2, e3⟩ := hu
      have hiL := HI.out k hlt
      obtain ⟨bu, offu, rfl, hSu, hcu⟩ := e3 (by omega)
      have hbw := hS b hSb
      have hbu := hS bu hSu
      have d0 := (hbl.cell (p := ⟨b, off + k * 2, none⟩) hbw).trans c0
      have d1 := (hbl.cell (p := ⟨b, off + k * 2 + 1, none⟩) hbw).trans c1
      have d2 := (hbl.cell (p := ⟨bu, offu + i, none⟩) hbu).trans (hcu i (by omega))
      have qk : (k : Int) < (n : Int) := by omega
      have qi : (i : Int) < (nu : Int) := by omega
      have HBL := Lib.hid hbl
      obtain ⟨y, hy⟩ : ∃ y, (shAt L k).2.getD i 0 = y := ⟨_, rfl⟩
      rw [hy] at d2
      obtain ⟨h, hh⟩ : ∃ h, (shAt L k).1 = h := ⟨_, rfl⟩
      rw [hh] at d0
      have hstep : (colY (L.take (k + 1)) i).map (Value.int .i64) = (colY (L.take k) i).map (Value.int .i64) ++ [.int .i64 y] := by
        have hkl : k < L.length := by rw [← HN.out]; exact hlt
        unfold colY
        rw [List.take_succ_eq_append_getElem hkl, List.map_append, List.map_append]
        have : shAt L k = L[k] := by unfold shAt; rw [List.getD_eq_getElem?_getD, List.getElem?_eq_getElem hkl]; rfl
        rw [← hy, this]; rfl
      have HST := Lib.hid hstep
      have bz : bu < wr.heap.size := by omega
      clear hbl hcell c0 c1 hh hstep hy e1 e2 e3 hcu hiL
      go_wp2_with (at_builtin; refine wpList_append_own _ rfl _ _ 24 rfl w.heap.size 3 i0 (.int .i64 0) 1 8 Tryz.underlying24 hin hz0 hz1 hz2 rfl (by decide) _ _ _ rfl ((hown.alloc _).alloc _) ⟨wr.heap.size + 1, 0, none⟩ 1 1 [.int .i64 y] rfl rfl (fun j u hj => by have := cell_one_new (wr.alloc (.cells #[.int .i64 h, .slice (some ⟨bu, offu, none⟩) nu cu] 49)) (.int .i64 y) 3 j u hj; simpa using this) (ints_oneCell .i64 [_]) (by unfold maxLen; omega) (by omega) (by simp; omega) ?_)
      intro v' w2 hown' hgrow _
      have hg := grown_past (grown_past hgrow)
      have hown2 : w2.ownsRow w.heap.size 3 1 v' (k + 1) ((colY (L.take (k + 1)) i).map (Value.int .i64)) := by rw [HST.out]; simpa using hown'
      have hul : ∀ g, u5.ownBlock = some g → w.heap.size ≤ g := fun g hg => (hown.lt g hg).1
      have hb2 := HBL.out.grown hg hsz hul
      have HO2 := Lib.hid hown2
      have HB2 := Lib.hid hb2
      clear hown' hgrow hg hown2 hul hb2 hown
      go_wp2_with fail
      go_roundw
      case measure => simp [intOf]; omega
      case rel => exact ⟨k + 1, by omega, by go_num, HO2.out, HB2.out⟩
    · have hkn : k = n := by omega
      subst hkn
      go_wp2_with fail
      go_ret
      refine ⟨_, rfl, IntsAt.of_own (n := k) ?_, hbl⟩
      rwa [List.take_of_length_le (by rw [← HN.out]; exact Nat.le_refl _)] at hown

set_option maxHeartbeats 400000 in
theorem s_elem1 (pb p : Nat) (x : Int) (w : World) (hc : w.cell? ⟨pb, 0, none⟩ = some (.int .i64 (p : Int))) (h0 : 0 ≤ x) (h1 : x < p) :
    Calls Tryz.prog 158 #[.int .i64 x, .pointer (some ⟨pb, 0, none⟩)] w fun e w' => e = .returned (.bool false) ∧ w = w' := by
  have t1 : decide (x < 0) = false := decide_eq_false (by omega)
  have t2 : decide ((p : Int) ≤ x) = false := decide_eq_false (by omega)
  clear h0 h1
  go_enter Tryz.func158, Tryz.ntmps158
  go_wp2_with fail
  go_ret
  exact ⟨rfl, rfl⟩
set_option maxRecDepth 100000 in
set_option maxHeartbeats 1000000 in
theorem s_IndexFunc (pb p : Nat) (v : Value) (xs : List Int) (S : Nat → Prop) (w : World) (hv : IntsAt w S v xs) (hl : xs.length ≤ 1000000) (hc : w.cell? ⟨pb, 0, none⟩ = some (.int .i64 (p : Int))) (hx : InF p xs) :
    Calls Tryz.prog 193 #[v, .func (.func 158) #[] #[.pointer (some ⟨pb, 0, none⟩)]] w fun e w' => e = .returned (.int .i64 (-1)) ∧ w = w' := by
  obtain ⟨A, n, ca, rfl, hn, hnc, hcc⟩ := hv
  rw [← hn] at hl
  have hx' : ∀ k, k < n → 0 ≤ xs.getD k 0 ∧ xs.getD k 0 < p := fun k hk => hx k (by omega)
  have HX := Lib.hid hx'
  have HCC := Lib.hid hcc
  clear hn hcc hx hx'
  go_enter Tryz.func193, Tryz.ntmps193
  go_wp2_with fail
  go_loopw [8] (fun t wr => ∃ i : Nat, i ≤ n ∧ t = .int .i64 i ∧ w = wr) (fun t _ => n - (intOf t).toNat)
  case atStart => exact ⟨0, by omega, rfl, rfl⟩
  case round =>
    obtain ⟨i, hin, rfl, rfl⟩ := hrel
    by_cases hlt : i < n
    · obtain ⟨b, off, rfl, _, hcell⟩ := HCC.out (by omega)
      have cx := hcell i hlt
      have bx := HX.out i hlt
      obtain ⟨x, hx⟩ : ∃ x, xs.getD i 0 = x := ⟨_, rfl⟩
      rw [hx] at cx bx
      have qi : (i : Int) < (n : Int) := by omega
      have qi0 : (0 : Int) ≤ (i : Int) := by omega
      have he := s_elem1 pb p x w hc bx.1 bx.2
      have HE := Lib.hid he
      clear hx hcell bx he
      go_wp2_with fail
      refine HE.out.mono ?_
      rintro e w' ⟨rfl, rfl⟩
      go_wp2_with fail
      go_roundw
      case measure => simp [intOf]; omega
      case rel => exact ⟨i + 1, by omega, by go_num, by first | rfl | trivial⟩
    · have hi' : i = n := by omega
      subst hi'
      go_wp2_with fail
      go_ret
      exact ⟨rfl, rfl⟩
set_option maxHeartbeats 400000 in
theorem s_ContainsFunc (pb p : Nat) (v : Value) (xs : List Int) (S : Nat → Prop) (w : World) (hv : IntsAt w S v xs) (hl : xs.length ≤ 1000000) (hc : w.cell? ⟨pb, 0, none⟩ = some (.int .i64 (p : Int))) (hx : InF p xs) :
    Calls Tryz.prog 157 #[v, .func (.func 158) #[] #[.pointer (some ⟨pb, 0, none⟩)]] w fun e w' => e = .returned (.bool false) ∧ w = w' := by
  have h := s_IndexFunc pb p v xs S w hv hl hc hx
  have H := Lib.hid h
  clear h hv hx hc
  go_enter Tryz.func157, Tryz.ntmps157
  go_wp2_with fail
  refine H.out.mono ?_
  rintro e w' ⟨rfl, rfl⟩
  go_wp2_with fail
  go_ret
  exact ⟨rfl, rfl⟩
set_option maxHeartbeats 400000 in
theorem s_elements (p need hold : Nat) (v : Value) (xs : List Int) (S : Nat → Prop) (w : World) (hv : IntsAt w S v xs) (hS : ∀ b, S b → b < w.heap.size) (hl : xs.length ≤ 1000000) (hx : InF p xs) :
    Calls Tryz.prog 120 #[.agg #[.int .i64 (p : Int), .int .i64 (need : Int), .int .i64 (hold : Int)], v] w (BoolBelow true w) := by
  obtain ⟨A, n, c, rfl, hn, hnc, hcc⟩ := id hv
  have h := s_ContainsFunc w.heap.size p _ xs S (w.alloc (.cells #[.int .i64 (p : Int), .int .i64 (need : Int), .int .i64 (hold : Int)] 34)) (hv.keep fun b hb => Below.heap_alloc _ _ _ (hS b hb)) hl (by rw [World.cell?_alloc_new]; rfl) hx
  have H := Lib.hid h
  clear h hv hx hn hcc
  go_enter Tryz.func120, Tryz.ntmps120
  go_wp2_with fail
  refine H.out.mono ?_
  rintro e w' ⟨rfl, rfl⟩
  go_wp2_with fail
  go_ret
  exact ⟨rfl, (Below.refl _ _).alloc (Nat.le_refl _) _⟩
set_option maxHeartbeats 400000 in
theorem s_Stands (p need hold h : Nat) (v : Value) (xs : List Int) (S : Nat → Prop) (w : World) (hv : IntsAt w S v xs) (hS : ∀ b, S b → b < w.heap.size) (hl : xs.length ≤ 1000000) (hx : InF p xs) (h1 : 1 ≤ h) (h2 : h ≤ hold) :
    Calls Tryz.prog 194 #[.agg #[.int .i64 (p : Int), .int .i64 (need : Int), .int .i64 (hold : Int)], .agg #[.int .i64 (h : Int), v]] w (BoolBelow true w) := by
  obtain ⟨A, n, c, rfl, hn, hnc, hcc⟩ := id hv
  have t1 : decide ((1 : Int) ≤ (h : Int)) = true := decide_eq_true (by omega)
  have t2 : decide ((h : Int) ≤ (hold : Int)) = true := decide_eq_true (by omega)
  have t3 : decide (h ≤ hold) = true := decide_eq_true h2
  have e := fun (o o' : Obj) => s_elements p need hold (.slice A n c) xs S ((w.alloc o).alloc o') ((hv.keep fun b hb => Below.heap_alloc _ _ _ (hS b hb)).keep fun b hb => Below.heap_alloc _ _ _ (by have := hS b hb; simp; omega)) (fun b hb => by have := hS b hb; simp; omega) hl hx
  have E := Lib.hid e
  clear e hv hx hn hcc h1 h2
  go_enter Tryz.func194, Tryz.ntmps194
  go_wp2_with fail
  refine (E.out _ _).mono ?_
  rintro e w' ⟨rfl, hb⟩
  have HB := Lib.hid hb
  clear hb
  go_wp2_with fail
  go_ret
  exact ⟨rfl, (((Below.refl _ _).alloc (Nat.le_refl _) _).alloc (by simp) _).trans (HB.out.mono (by simp; omega))⟩
end Go.Proofs.YtjfphobfikadlaaGreatDoor
namespace Go.Proofs.YtjfphobfikadlaaGreatDoor
open Go.RowKit Num

/-- How many bytes one element holds. -/
def widP (p : Nat) : Nat := if p < 256 then 0 else if p < 65536 then 1 else if p < 16777216 then 2 else 3
theorem widP_le (p : Nat) : widP p ≤ 3 := by
  unfold widP; repeat' split
  all_goals omega
/-- How many elements sixteen bytes are. -/
def cntP (p : Nat) : Nat := if widP p = 0 then 128 else if widP p = 1 then 16 else if widP p = 2 then 8 else 6
theorem cntP_le (p : Nat) : cntP p ≤ 128 := by
  unfold cntP; repeat' split
  all_goals omega
set_option maxHeartbeats 1000000 in
theorem p_Width (p : Nat) (w : World) (h2 : p ≤ 1073741824) :
    Calls Tryz.prog 119 #[.int .i64 (p : Int)] w fun e w' => e = .returned (.int .i64 ((widP p : Nat) : Int)) ∧ w = w' := by
  obtain ⟨v, hv⟩ : ∃ v, widP p = v := ⟨_, rfl⟩
  have hc : (v = 0 ∧ p < 256) ∨ (v = 1 ∧ 256 ≤ p ∧ p < 65536) ∨ (v = 2 ∧ 65536 ≤ p ∧ p < 16777216) ∨ (v = 3 ∧ 16777216 ≤ p) := by
    unfold widP at hv; repeat' split at hv
    all_goals omega
  rw [hv]
  clear hv
  go_enter Tryz.func119, Tryz.ntmps119
  go_wp2_with fail
  go_loopw [3, 4] (fun x t wr => ∃ k : Nat, k ≤ v ∧ x = .int .i64 (k : Int) ∧ t = .int .i64 ((256 ^ (k + 1) : Nat) : Int) ∧ w = wr) (fun x _ _ => 3 - (intOf x).toNat)
  case atStart => exact ⟨0, by omega, rfl, rfl, rfl⟩
  case round =>
    obtain ⟨k, hk, rfl, rfl, rfl⟩ := hrel
    rcases (show (k = 0 ∧ v = 0) ∨ (k = 0 ∧ 0 < v) ∨ (k = 1 ∧ v = 1) ∨ (k = 1 ∧ 1 < v) ∨ (k = 2 ∧ v = 2) ∨ (k = 2 ∧ 2 < v) ∨ (k = 3 ∧ v = 3) by omega) with ⟨rfl, rfl⟩ | ⟨rfl, hv⟩ | ⟨rfl, rfl⟩ | ⟨rfl, hv⟩ | ⟨rfl, rfl⟩ | ⟨rfl, hv⟩ | ⟨rfl, rfl⟩
    · have t : decide ((256 : Int) ≤ (p : Int)) = false := decide_eq_false (by omega)
      go_wp2_with fail
      go_ret
      exact ⟨rfl, rfl⟩
    · have t : decide ((256 : Int) ≤ (p : Int)) = true := decide_eq_true (by omega)
      go_wp2_with fail
      go_roundw
      case measure => simp [intOf]
      case rel => exact ⟨1, by omega, rfl, rfl, trivial⟩
    · have t : decide ((65536 : Int) ≤ (p : Int)) = false := decide_eq_false (by omega)
      go_wp2_with fail
      go_ret
      exact ⟨rfl, rfl⟩
    · have t : decide ((65536 : Int) ≤ (p : Int)) = true := decide_eq_true (by omega)
      go_wp2_with fail
      go_roundw
      case measure => simp [intOf]
      case rel => exact ⟨2, by omega, rfl, rfl, trivial⟩
    · have t : decide ((16777216 : Int) ≤ (p : Int)) = false := decide_eq_false (by omega)
      go_wp2_with fail
      go_ret
      exact ⟨rfl, rfl⟩
    · have t : decide ((16777216 : Int) ≤ (p : Int)) = true := decide_eq_true (by omega)
      go_wp2_with fail
      go_roundw
      case measure => simp [intOf]
      case rel => exact ⟨3, by omega, rfl, rfl, trivial⟩
    · go_wp2_with fail
      go_ret
      exact ⟨rfl, rfl⟩
def IntBelowM (n : Int) (w : World) (e : Ending) (w' : World) : Prop := e = .returned (.int .i64 n) ∧ Below w.heap.size w w'
set_option maxHeartbeats 1000000 in
theorem p_Count (p : Nat) (w : World) (h2 : p ≤ 1073741824) :
    Calls Tryz.prog 70 #[.int .i64 (p : Int), .int .i64 16] w (IntBelowM ((cntP p : Nat) : Int) w) := by
  have hw := fun W => p_Width p W h2
  have hle := widP_le p
  unfold cntP
  obtain ⟨v, hv⟩ : ∃ v, widP p = v := ⟨_, rfl⟩
  rw [hv] at hw hle ⊢
  have HW := Lib.hid hw
  clear hw hv
  rcases (show v = 0 ∨ v = 1 ∨ v = 2 ∨ v = 3 by omega) with rfl | rfl | rfl | rfl
  · go_enter Tryz.func70, Tryz.ntmps70
    go_wp2_with fail
    refine (HW.out _).mono ?_
    rintro e w' ⟨rfl, rfl⟩
    go_wp2_with fail
    go_ret
    exact ⟨rfl, Below.refl _ _⟩
  all_goals
    go_enter Tryz.func70, Tryz.ntmps70
    go_wp2_with fail
    refine (HW.out _).mono ?_
    rintro e w' ⟨rfl, rfl⟩
    go_wp2_with fail
    go_region
    all_goals
      go_wp2_with fail
      go_ret
      exact ⟨rfl, (Below.refl _ _).drew⟩
/-- How many random numbers a circle needs. -/
theorem c_Random (p need hold count : Nat) (w : World) (n2 : 1 ≤ need) (n3 : need ≤ 16) (hc : count ≤ 1000000) :
    Calls Tryz.prog 69 #[planV p need hold, .int .i64 (count : Int)] w fun e w' => e = .returned (.int .i64 ((count * (need - 1) : Nat) : Int)) ∧ Below w.heap.size w w' := by
  unfold planV
  have e : (count : Int) * ((need : Int) - 1) = ((count * (need - 1) : Nat) : Int) := by rw [Int.natCast_mul, Int.natCast_sub n2]; rfl
  have hb : count * (need - 1) ≤ 1000000 * 16 := Nat.mul_le_mul hc (by omega)
  have b0 : (0 : Int) ≤ (count : Int) * ((need : Int) - 1) := by omega
  have b1 : (count : Int) * ((need : Int) - 1) ≤ 16000000 := by omega
  have E := Lib.hid e
  clear e hb
  go_enter Tryz.func69, Tryz.ntmps69
  go_wp2_with fail
  go_ret
  exact ⟨ret_int E.out, (Below.refl _ _).alloc (Nat.le_refl _) _⟩
set_option maxHeartbeats 1000000 in
theorem f_Needs (p need hold : Nat) (w : World) (h2 : p ≤ 1073741824) (n2 : 1 ≤ need) (n3 : need ≤ 16) :
    Calls Tryz.prog 24 #[planV p need hold] w fun e w' => e = .returned (.int .i64 ((cntP p * (need - 1) : Nat) : Int)) ∧ Below w.heap.size w w' := by
  have hcl := cntP_le p
  have hc := fun W => p_Count p W h2
  have hr := fun W => c_Random p need hold (cntP p) W n2 n3 (by omega)
  have HC := Lib.hid hc
  have HR := Lib.hid hr
  clear hc hr
  unfold planV at *
  generalize cntP p = v at *
  have p1 : (w.alloc (.cells #[.int .i64 (p : Int), .int .i64 (need : Int), .int .i64 (hold : Int)] 34)).cell? ⟨w.heap.size, 0, none⟩ = some (.int .i64 (p : Int)) := by rw [World.cell?_alloc_new]; rfl
  have p2 : (w.alloc (.cells #[.int .i64 (p : Int), .int .i64 (need : Int), .int .i64 (hold : Int)] 34)).cell? ⟨w.heap.size, 1, none⟩ = some (.int .i64 (need : Int)) := by rw [World.cell?_alloc_new]; rfl
  have p3 : (w.alloc (.cells #[.int .i64 (p : Int), .int .i64 (need : Int), .int .i64 (hold : Int)] 34)).cell? ⟨w.heap.size, 2, none⟩ = some (.int .i64 (hold : Int)) := by rw [World.cell?_alloc_new]; rfl
  have HB := Lib.hid ((Below.refl w.heap.size w).alloc (Nat.le_refl _) (.cells #[.int .i64 (p : Int), .int .i64 (need : Int), .int .i64 (hold : Int)] 34))
  go_enter Tryz.func24, Tryz.ntmps24
  go_wp2_with fail
  generalize w.alloc (.cells #[.int .i64 (p : Int), .int .i64 (need : Int), .int .i64 (hold : Int)] 34) = w1 at *
  have hba := HB.out
  go_region_held3 (fun W => W.cell? ⟨w.heap.size, 0, none⟩ = some (.int .i64 (p : Int)) ∧ W.cell? ⟨w.heap.size, 1, none⟩ = some (.int .i64 (need : Int)) ∧ W.cell? ⟨w.heap.size, 2, none⟩ = some (.int .i64 (hold : Int)) ∧ Below w.heap.size w W)
    (first
      | exact ⟨p1, p2, p3, hba.drew⟩
      | (go_split_ands
         refine ⟨?_, ?_, ?_, ?_⟩
         · (rw [hbk.cell (World.block_lt_of_cell? _ _ ‹_›)]; assumption)
         · (rw [hbk.cell (World.block_lt_of_cell? _ _ ‹_›)]; assumption)
         · (rw [hbk.cell (World.block_lt_of_cell? _ _ ‹_›)]; assumption)
         · exact Below.trans ‹Below w.heap.size w _› (hbk.mono (‹Below w.heap.size w _›).size)))
    (first
      | (go_at_call 70; ((with_reducible refine (HC.out _).mono ?_); rintro e wk ⟨rfl, hbk⟩))
      | (go_at_call 69; ((with_reducible refine (HR.out _).mono ?_); rintro e wk ⟨rfl, hbk⟩)))
  all_goals
    go_split_ands
    have hbf : Below w.heap.size w wk := by assumption
    go_wp2_with fail
    go_ret
    exact ⟨rfl, hbf⟩
end Go.Proofs.YtjfphobfikadlaaGreatDoor
namespace Go.Proofs.YtjfphobfikadlaaGreatDoor
/-- The number that some bytes are. -/
def chunkN (l : List UInt8) : Nat := l.foldl (fun n c => n * 256 + c.toNat) 0
theorem chunk_snoc (l : List UInt8) (c : UInt8) : chunkN (l ++ [c]) = chunkN l * 256 + c.toNat := by simp [chunkN]
theorem chunk_lt : ∀ (n : Nat) (l : List UInt8), l.length = n → chunkN l < 256 ^ n := by
  intro n
  induction n with
  | zero => intro l h; rw [List.eq_nil_of_length_eq_zero h]; decide
  | succ n ih =>
    intro l h
    have hne : l ≠ [] := by intro e; subst e; simp at h
    rw [← List.dropLast_concat_getLast hne, chunk_snoc, Nat.pow_succ]
    have h1 := ih l.dropLast (by rw [List.length_dropLast]; omega)
    have h2 := (l.getLast hne).toNat_lt
    omega
/-- What byte is at a place of the number. -/
theorem chunk_byte (a b : List UInt8) (c : UInt8) : chunkN (a ++ c :: b) / 256 ^ b.length % 256 = c.toNat := by
  have hg : ∀ (b : List UInt8) (a : List UInt8), chunkN (a ++ b) = chunkN a * 256 ^ b.length + chunkN b := by
    intro b
    induction b with
    | nil => intro a; simp [chunkN]
    | cons x l ih =>
      intro a
      rw [show a ++ x :: l = (a ++ [x]) ++ l by simp, ih, chunk_snoc, show x :: l = [x] ++ l from rfl, ih [x]]
      have : chunkN [x] = x.toNat := by simp [chunkN]
      rw [this, List.length_append, Nat.pow_add]
      simp only [List.length_singleton, Nat.pow_one]
      rw [Nat.add_mul, Nat.mul_assoc, Nat.add_assoc, Nat.mul_comm 256]
  have h1 := hg (c :: b) a
  have h2 := hg b [c]
  have hc : chunkN [c] = c.toNat := by simp [chunkN]
  have hb := chunk_lt _ b rfl
  have hcl := c.toNat_lt
  rw [h1, show c :: b = [c] ++ b from rfl, h2, hc, List.length_append]
  simp only [List.length_singleton]
  rw [Nat.pow_add, Nat.pow_one, ← Nat.mul_assoc, ← Nat.add_assoc, ← Nat.add_mul, Nat.add_comm, Nat.add_mul_div_right _ _ (Nat.pow_pos (by decide)), Nat.div_eq_of_lt hb]
  omega
def pk3 (l : List UInt8) (k : Nat) : Nat := chunkN ((l.drop (3 * k)).take 3)
/-- The elements of three bytes each. -/
def pack3 (l : List UInt8) : List Int := (List.range ((l.length + 2) / 3)).map fun k => ((pk3 l k : Nat) : Int)
theorem pack3_len (l : List UInt8) : (pack3 l).length = (l.length + 2) / 3 := by simp [pack3]
theorem pack3_get (l : List UInt8) (k : Nat) (h : k < (l.length + 2) / 3) : (pack3 l).getD k 0 = ((pk3 l k : Nat) : Int) := by
  unfold pack3; rw [List.getD_eq_getElem?_getD, List.getElem?_map, List.getElem?_range h]; rfl
theorem pk3_lt (l : List UInt8) (k : Nat) : pk3 l k < 256 ^ (min 3 (l.length - 3 * k)) := by
  unfold pk3; exact chunk_lt _ _ (by simp)
/-- The byte of an element at a place. -/
theorem pk3_byte (l : List UInt8) (k j : Nat) (h : 3 * k + j < l.length) (hj : j < 3) : UInt8.ofNat (pk3 l k / 256 ^ (min 3 (l.length - 3 * k) - 1 - j) % 256) = l[3 * k + j] := by
  have hd : j < ((l.drop (3 * k)).take 3).length := by simp; omega
  have e : (l.drop (3 * k)).take 3 = ((l.drop (3 * k)).take 3).take j ++ ((l.drop (3 * k)).take 3)[j] :: ((l.drop (3 * k)).take 3).drop (j + 1) := by
    rw [List.getElem_cons_drop, List.take_append_drop]
  have hl : (((l.drop (3 * k)).take 3).drop (j + 1)).length = min 3 (l.length - 3 * k) - 1 - j := by simp; omega
  unfold pk3
  rw [e, ← hl, chunk_byte]
  simp
end Go.Proofs.YtjfphobfikadlaaGreatDoor
