/- Groups of marks: what the kernel's run says of the sums. The marks of the plays' shares are those of the kernel's run. Contracts: sixteen bytes as bits. -/
import Derived.Test.YtjfphobfikadlaaGreatDoorX34
import Derived.Test.YtjfphobfikadlaaGreatDoorX17
import Derived.Test.YtjfphobfikadlaaGreatDoorX23
import Derived.Test.YtjfphobfikadlaaGreatDoorX22
set_option linter.unusedVariables false
set_option linter.unusedSimpArgs false
namespace Go.Proofs.YtjfphobfikadlaaGreatDoor.Lane
open Go.RowKit

/-- The mark's bytes. -/
def mbB (p s0 h k d : Nat) (sec : List Nat) : ByteArray := ⟨(mbL p s0 h k d sec).toArray⟩
theorem mbB_pad (p s0 h k d B : Nat) (sec : List Nat) (hs : (mbL p s0 h k d sec).length < 1000000) (hf : FitsB B (mbL p s0 h k d sec).length) :
    (padS (mbB p s0 h k d sec)).size = 64 * B ∧ hn (padS (mbB p s0 h k d sec)).data.toList = hn (padL (mbL p s0 h k d sec) (mbL p s0 h k d sec).length) := by
  have e : (padS (mbB p s0 h k d sec)).data.toList = padL (mbL p s0 h k d sec) (mbL p s0 h k d sec).length := by
    show (padL (mbL p s0 h k d sec).toArray.toList (mbL p s0 h k d sec).toArray.size).toArray.toList = _
    simp
  refine ⟨?_, by rw [e]⟩
  have h2 := (pad_hn (mbL p s0 h k d sec) _ B rfl hf hs).2
  have : (padS (mbB p s0 h k d sec)).data.toList.length = 64 * B := by rw [e]; exact h2
  simpa using this
theorem lane_first (p h k d B : Nat) (sec : List Nat) (a cnt : Nat) (hs : ∀ s0, (mbL p s0 h k d sec).length < 1000000) (hf : ∀ i, i < cnt → FitsB B (mbL p (a + i) h k d sec).length) {α : Type} (Q : Nat → α) :
    ∃ X, firM (mk cnt) (pk cnt fun _ => 1) ((List.range cnt).map (fun i => hn (padL (mbL p (a + i) h k d sec) (mbL p (a + i) h k d sec).length)) ++ []) B Q = Q X ∧ PW cnt X (fun i => toN (shaSt (padS (mbB p (a + i) h k d sec)) B) 0) := by
  refine firM_ok cnt B (fun i => padS (mbB p (a + i) h k d sec)) _ (by simp) (fun i hi => ?_) Q
  obtain ⟨h1, h2⟩ := mbB_pad p (a + i) h k d B sec (hs _) (hf i hi)
  refine ⟨h1, ?_⟩
  rw [h2, List.append_nil, List.getD_eq_getElem?_getD, List.getElem?_map, List.getElem?_range hi]
  rfl
theorem first_ne (s t : ByteArray) (B C : Nat) (hs : (padS s).size = 64 * B) (ht : (padS t).size = 64 * C) (h : toN (shaSt (padS s) B) 0 ≠ toN (shaSt (padS t) C) 0) : shaOf s ≠ shaOf t := by
  intro e
  have := sha_first s t e
  rw [hs, ht, Nat.mul_div_cancel_left _ (by decide), Nat.mul_div_cancel_left _ (by decide)] at this
  exact h this
/-- The marks of a group and those of its wrong shares differ. -/
theorem grp_ok (p h k n B0 B1 : Nat) (sec : List Nat) (a cnt : Nat) (hp0 : 0 < p) (hp : p < 1073741824) (hh : h < 1000) (hn1 : sec.length = n) (hn2 : n < 1000000) (hs : ∀ d s0, (mbL p s0 h k d sec).length < 1000000) (hg : grp p h k n B0 B1 sec a cnt = true) :
    ∀ i, i < cnt → shaOf (mbB p (a + i) h k 0 sec) ≠ shaOf (mbB p (a + i) h k 1 sec) := by
  unfold grp at hg
  obtain ⟨f0, hg⟩ := lanes_ok p h k 0 B0 n sec a _ hp0 hp hh hn1 hn2 (hs 0) cnt [] hg
  obtain ⟨f1, hg⟩ := lanes_ok p h k 1 B1 n sec a _ hp0 hp hh hn1 hn2 (hs 1) cnt [] hg
  rw [fr_eq, fr_eq, onesM_eq, mk_eq] at hg
  obtain ⟨X, e1, hX⟩ := lane_first p h k 0 B0 sec a cnt (hs 0) f0 (fun x => firM (mk cnt) (pk cnt fun _ => 1) ((List.range cnt).map (fun i => hn (padL (mbL p (a + i) h k 1 sec) (mbL p (a + i) h k 1 sec).length)) ++ []) B1 fun y => difM (mk cnt) (pk cnt fun _ => 1) x y)
  rw [e1] at hg
  obtain ⟨Y, e2, hY⟩ := lane_first p h k 1 B1 sec a cnt (hs 1) f1 (fun y => difM (mk cnt) (pk cnt fun _ => 1) X y)
  rw [e2] at hg
  intro i hi
  exact first_ne _ _ B0 B1 (mbB_pad p (a + i) h k 0 B0 sec (hs _ _) (f0 i hi)).1 (mbB_pad p (a + i) h k 1 B1 sec (hs _ _) (f1 i hi)).1 (difM_ok hX hY hg i hi)
/-- The marks of a group against one other. -/
noncomputable def grp1 (p h k n B : Nat) (sec : List Nat) (a cnt s1 : Nat) : Bool :=
  lanes p h k 0 B n sec a cnt [] fun l0 => lanes p h k 0 B n sec s1 1 [] fun l1 => fr (onesM cnt) fun u => fr (Nat.mul u 4294967295) fun m => firM m u l0 B fun x => firM (mk 1) (pk 1 fun _ => 1) l1 B fun y => difM m u x (Nat.mul y u)
theorem grp1_ok (p h k n B : Nat) (sec : List Nat) (a cnt s1 : Nat) (hp0 : 0 < p) (hp : p < 1073741824) (hh : h < 1000) (hn1 : sec.length = n) (hn2 : n < 1000000) (hs : ∀ d s0, (mbL p s0 h k d sec).length < 1000000) (hg : grp1 p h k n B sec a cnt s1 = true) :
    ∀ i, i < cnt → shaOf (mbB p (a + i) h k 0 sec) ≠ shaOf (mbB p s1 h k 0 sec) := by
  unfold grp1 at hg
  obtain ⟨f0, hg⟩ := lanes_ok p h k 0 B n sec a _ hp0 hp hh hn1 hn2 (hs 0) cnt [] hg
  obtain ⟨f1, hg⟩ := lanes_ok p h k 0 B n sec s1 _ hp0 hp hh hn1 hn2 (hs 0) 1 [] hg
  rw [fr_eq, fr_eq, onesM_eq, mk_eq] at hg
  obtain ⟨X, e1, hX⟩ := lane_first p h k 0 B sec a cnt (hs 0) f0 (fun x => firM (mk 1) (pk 1 fun _ => 1) ((List.range 1).map (fun i => hn (padL (mbL p (s1 + i) h k 0 sec) (mbL p (s1 + i) h k 0 sec).length)) ++ []) B fun y => difM (mk cnt) (pk cnt fun _ => 1) x (Nat.mul y (pk cnt fun _ => 1)))
  rw [e1] at hg
  obtain ⟨Y, e2, hY⟩ := lane_first p h k 0 B sec s1 1 (hs 0) f1 (fun y => difM (mk cnt) (pk cnt fun _ => 1) X (Nat.mul y (pk cnt fun _ => 1)))
  rw [e2] at hg
  have hy : Y = toN (shaSt (padS (mbB p (s1 + 0) h k 0 sec)) B) 0 := hY.1
  have hy2 := hY.2 0 (by decide)
  have hc := pw_const (n := cnt) Y (by rw [hy]; exact hy2)
  intro i hi
  refine first_ne _ _ B B (mbB_pad p (a + i) h k 0 B sec (hs _ _) (f0 i hi)).1 (mbB_pad p s1 h k 0 B sec (hs _ _) (f1 0 (by decide))).1 ?_
  have := difM_ok hX hc hg i hi
  rwa [hy] at this
end Go.Proofs.YtjfphobfikadlaaGreatDoor.Lane
namespace Go.Proofs.YtjfphobfikadlaaGreatDoor.Lane
open Go.RowKit Num

def toI (l : List Nat) : List Int := l.map Int.ofNat
theorem toI_len (l : List Nat) : (toI l).length = l.length := by simp [toI]
theorem vlN_len (p s0 h k d : Nat) : ∀ (sec : List Nat) (c : Nat), (vlN p s0 h k d sec c).length = sec.length
  | [], _ => rfl
  | s :: t, c => by simp [vlN, vlN_len p s0 h k d t (c + k)]
theorem vlN_get (p s0 h k d : Nat) : ∀ (sec : List Nat) (c i : Nat), i < sec.length → (vlN p s0 h k d sec c).getD i 0 = ((sec.getD i 0 + sN p s0 h k (c + i * k) 1) % p + d) % p
  | [], _, i, hi => absurd hi (Nat.not_lt_zero i)
  | s :: t, c, 0, _ => by simp [vlN]
  | s :: t, c, i + 1, hi => by
    have := vlN_get p s0 h k d t (c + k) i (by simpa using hi)
    rw [show c + (i + 1) * k = c + k + i * k by rw [Nat.add_mul, Nat.one_mul]; omega]
    simpa [vlN] using this
/-- The random numbers of a value. -/
theorem fill_take (p s0 N k c : Nat) (hc : c + k ≤ N) : ((fillL p s0 N).drop c).take k = (List.range k).map fun j => ((fillN p s0 (c + j + 1) : Nat) : Int) := by
  apply List.ext_getElem?
  intro j
  by_cases hj : j < k
  · rw [List.getElem?_take, if_pos hj, List.getElem?_drop, List.getElem?_map, List.getElem?_range hj]
    unfold fillL
    rw [List.getElem?_map, List.getElem?_range (by omega)]
    rfl
  · rw [List.getElem?_take, if_neg hj, List.getElem?_map, List.getElem?_eq_none (by simp; omega)]
    rfl
theorem ev_sN (p s0 h : Nat) : ∀ (k c hp : Nat), ((sN p s0 h k c hp : Nat) : Int) = (hp : Int) * ((h : Int) * ev ((List.range k).map fun j => ((fillN p s0 (c + j + 1) : Nat) : Int)) (h : Int))
  | 0, c, hp => by simp [sN, ev]
  | k + 1, c, hp => by
    have ih := ev_sN p s0 h k (c + 1) (hp * h)
    have e : (List.range (k + 1)).map (fun j => ((fillN p s0 (c + j + 1) : Nat) : Int)) = ((fillN p s0 (c + 1) : Nat) : Int) :: (List.range k).map fun j => ((fillN p s0 (c + 1 + j + 1) : Nat) : Int) := by
      rw [List.range_succ_eq_map, List.map_cons, List.map_map]
      congr 1
      refine List.map_congr_left fun j _ => ?_
      show ((fillN p s0 (c + (j + 1) + 1) : Nat) : Int) = _
      rw [show c + (j + 1) + 1 = c + 1 + j + 1 by omega]
    rw [e]
    show ((fillN p s0 (c + 1) * (hp * h) + sN p s0 h k (c + 1) (hp * h) : Nat) : Int) = (hp : Int) * ((h : Int) * (((fillN p s0 (c + 1) : Nat) : Int) + (h : Int) * ev _ (h : Int)))
    rw [Int.natCast_add, ih]
    simp only [Int.natCast_mul, Int.mul_add]
    generalize ((fillN p s0 (c + 1) : Nat) : Int) = x
    generalize ev _ (h : Int) = y
    simp only [Int.mul_assoc, Int.mul_comm, Int.mul_left_comm]
/-- A share's values are the kernel's. -/
theorem vals_eq (p s0 h k N : Nat) (sec : List Nat) (hp : 1 ≤ p) (hN : sec.length * k ≤ N) :
    (List.range sec.length).map (dealV p k h (toI sec) (fillL p s0 N)) = toI (vlN p s0 h k 0 sec 0) := by
  apply List.ext_getElem
  · simp [toI_len, vlN_len]
  · intro i h1 h2
    have hi : i < sec.length := by simpa using h1
    have hik : i * k + k ≤ N := by
      have : (i + 1) * k ≤ sec.length * k := Nat.mul_le_mul_right k hi
      rw [Nat.add_mul, Nat.one_mul] at this; omega
    simp only [List.getElem_map, List.getElem_range]
    have e1 : (toI (vlN p s0 h k 0 sec 0))[i] = (((vlN p s0 h k 0 sec 0).getD i 0 : Nat) : Int) := by
      have : i < (vlN p s0 h k 0 sec 0).length := by rw [vlN_len]; exact hi
      simp [toI, List.getD_eq_getElem?_getD, this]
    rw [e1, vlN_get _ _ _ _ _ _ _ _ hi]
    unfold dealV
    rw [evH_eq p h hp, fill_take p s0 N k (i * k) hik]
    have es : (toI sec).getD i 0 = ((sec.getD i 0 : Nat) : Int) := by simp [toI, List.getD_eq_getElem?_getD, hi]
    rw [es]
    have hev := ev_sN p s0 h k (0 + i * k) 1
    rw [Nat.zero_add] at hev ⊢
    show (((sec.getD i 0 : Nat) : Int) + (h : Int) * ev _ (h : Int)) % (p : Int) = _
    have e3 : (h : Int) * ev ((List.range k).map fun j => ((fillN p s0 (i * k + j + 1) : Nat) : Int)) (h : Int) = ((sN p s0 h k (i * k) 1 : Nat) : Int) := by rw [hev]; simp
    rw [e3]
    rw [Nat.add_zero, Nat.mod_mod]
    simp
theorem wrong_eq (p s0 h k : Nat) (hp : 1 ≤ p) : ∀ (sec : List Nat) (c : Nat), vlN p s0 h k 1 sec c = (vlN p s0 h k 0 sec c).map fun v => (v + 1) % p
  | [], _ => rfl
  | s :: t, c => by
    simp only [vlN, List.map_cons, wrong_eq p s0 h k hp t (c + k), Nat.add_zero, Nat.mod_mod]
/-- The bytes of a mark. -/
theorem markB_eq (p s0 h k d : Nat) (sec : List Nat) (hp : 1 ≤ p) (hp2 : p ≤ 1073741824) (hh : h < 1000) (hl : sec.length < 1000000) : markB (h : Int) (toI (vlN p s0 h k d sec 0)) = mbB p s0 h k d sec := by
  have hb : ∀ (l : List Nat), (∀ y ∈ l, y < p) → putsL (toI l) = bysN l := by
    intro l
    induction l with
    | nil => intro _; rfl
    | cons y l ih =>
      intro hy
      have h1 := ih fun z hz => hy z (by simp [hz])
      have h2 := hy y (by simp)
      show putB (y : Int) ++ putsL (toI l) = pl 10 (2 * y) ++ bysN l
      rw [h1, putB_eq y (by omega)]
  have hv : ∀ (sec : List Nat) (c : Nat), ∀ y ∈ vlN p s0 h k d sec c, y < p := by
    intro sec
    induction sec with
    | nil => intro c y hy; cases hy
    | cons s t ih =>
      intro c y hy
      simp only [vlN, List.mem_cons] at hy
      rcases hy with rfl | hy
      · exact Nat.mod_lt _ (by omega)
      · exact ih _ y hy
  unfold markB mbB mbL putsB
  rw [toI_len, vlN_len, hb _ (hv sec 0), putB_eq h (by omega), putB_eq sec.length (by omega), List.append_assoc]
theorem mbL_len (p s0 h k d : Nat) (sec : List Nat) (hl : sec.length ≤ 200) : (mbL p s0 h k d sec).length < 1000000 := by
  have h10 : ∀ f u, (pl f u).length ≤ f := by
    intro f
    induction f with
    | zero => intro u; exact Nat.le_refl _
    | succ f ih =>
      intro u
      unfold pl
      split
      · simp
      · have := ih (u / 128); simp; omega
  have hb : ∀ l : List Nat, (bysN l).length ≤ 10 * l.length := by
    intro l
    induction l with
    | nil => exact Nat.le_refl _
    | cons y l ih =>
      show (pl 10 (2 * y) ++ bysN l).length ≤ _
      have := h10 10 (2 * y)
      simp only [List.length_append, List.length_cons]; omega
  have h1 := h10 10 (2 * h)
  have h2 := h10 10 (2 * sec.length)
  have h3 := hb (vlN p s0 h k d sec 0)
  rw [vlN_len] at h3
  unfold mbL
  simp only [List.length_append]
  omega
theorem mark_eq (p s0 h k d : Nat) (sec : List Nat) (hp : 1 ≤ p) (hp2 : p ≤ 1073741824) (hh : h < 1000) (hl : sec.length ≤ 200) : markS (h : Int) (toI (vlN p s0 h k d sec 0)) = shaOf (mbB p s0 h k d sec) := by
  unfold markS
  rw [markB_eq p s0 h k d sec hp hp2 hh (by omega)]
end Go.Proofs.YtjfphobfikadlaaGreatDoor.Lane
namespace Go.Proofs.YtjfphobfikadlaaGreatDoor
open Go.RowKit Num

/-- The bits of bytes, the greatest first. -/
def bitsL (l : List UInt8) : List Int := (List.range (8 * l.length)).map fun i => (((l.getD (i / 8) 0).toNat / 2 ^ (7 - i % 8) % 2 : Nat) : Int)
theorem bitsL_len (l : List UInt8) : (bitsL l).length = 8 * l.length := by simp [bitsL]
theorem bit_get (l : List UInt8) (k j : Nat) (hk : k < l.length) (hj : j < 8) : (bitsL l).getD (8 * k + j) 0 = (((l[k]).toNat / 2 ^ (7 - j) % 2 : Nat) : Int) := by
  unfold bitsL
  rw [List.getD_eq_getElem?_getD, List.getElem?_map, List.getElem?_range (by omega)]
  simp only [Option.map_some, Option.getD_some]
  rw [show (8 * k + j) / 8 = k by omega, show (8 * k + j) % 8 = j by omega, List.getD_eq_getElem?_getD, List.getElem?_eq_getElem hk]; rfl
theorem take_more (l : List Int) (k : Nat) (h : k < l.length) : l.take (k + 1) = l.take k ++ [l.getD k 0] := by
  rw [List.take_succ_eq_append_getElem h, List.getD_eq_getElem?_getD, List.getElem?_eq_getElem h]; rfl
set_option maxRecDepth 100000 in
theorem and_1B : ∀ a : Fin 256, bits .and .u8 ((a.val : Nat) : Int) 1 = ((a.val % 2 : Nat) : Int) := by decide
theorem and_one (x : Nat) (h : x < 256) : bits .and .u8 ((x : Nat) : Int) 1 = ((x % 2 : Nat) : Int) := and_1B ⟨x, h⟩
theorem wid0 {p : Nat} (h : p < 256) : widP p = 0 := by unfold widP; rw [if_pos h]
theorem cnt0 {p : Nat} (h : p < 256) : cntP p = 128 := by unfold cntP; rw [wid0 h]; rfl
set_option maxRecDepth 100000 in
set_option maxHeartbeats 4000000 in
theorem p_Pack0 (p : Nat) (s : ByteArray) (w : World) (hw : BasesOk w) (hp : Prm p) (h2 : p < 256) (hs : s.size = 16) :
    Calls Tryz.prog 67 #[.int .i64 (p : Int), .string s] w (IntsPost2 (bitsL s.data.toList) w) := by
  obtain ⟨i0, hi, hz0, hz1, hz2⟩ := info_parts infoI
  have hv := f_Valid p w hw hp (by omega)
  have hwid := fun W => p_Width p W (by omega)
  rw [wid0 h2] at hwid
  have hcnt := fun W => p_Count p W (by omega)
  rw [cnt0 h2] at hcnt
  have hll : s.data.toList.length = 16 := by simpa using hs
  have hcp := fun W => conv_part W s s.data.toList 16 rfl hll
  have HV := Lib.hid hv
  have HWID := Lib.hid hwid
  have HCNT := Lib.hid hcnt
  have HLL := Lib.hid hll
  have HCP := Lib.hid hcp
  clear hv hwid hcnt hw hll hcp
  go_enter Tryz.func67, Tryz.ntmps67
  go_wp2_with fail
  refine HV.out.mono ?_
  rintro e w' ⟨rfl, rfl⟩
  go_wp2_with fail
  refine (HCNT.out _).mono ?_
  rintro e w1 ⟨rfl, hb1⟩
  have HB1 := Lib.hid hb1
  clear hb1
  go_wp2_with fail
  refine (HWID.out _).mono ?_
  rintro e w' ⟨rfl, rfl⟩
  obtain ⟨cap, w2, hcv, hcap, hb2, hcell⟩ := HCP.out w1
  have HCL := Lib.hid hcell
  have HB2 := Lib.hid (HB1.out.trans (hb2.mono HB1.out.size))
  have hz1w := HB1.out.size
  have hz2w := hb2.size
  clear hcell hb2 hs
  go_wp2_with fail
  go_loopw [31, 6] (fun t o wr => ∃ k : Nat, k ≤ 16 ∧ t = .int .i64 (k : Int) ∧ wr.ownsRow w2.heap.size 3 1 o (8 * k) (((bitsL s.data.toList).take (8 * k)).map (Value.int .i64)) ∧ Below w2.heap.size w2 wr) (fun t _ _ => 16 - (intOf t).toNat)
  case atStart => exact ⟨0, by omega, rfl, World.ownsRow_nil _ _ _ _, Below.refl _ _⟩
  case round =>
    obtain ⟨k, hk, rfl, hown, hbl⟩ := hrel
    have hzz := hbl.size
    by_cases hlt : k < 16
    · have hkl : k < s.data.toList.length := by rw [HLL.out]; exact hlt
      have hcx0 := HCL.out k _ (List.getElem?_eq_getElem hkl)
      have hcx1 := (hbl.cell (p := ⟨w1.heap.size, k, none⟩) (World.block_lt_of_cell? _ _ hcx0)).trans hcx0
      have hc8 := (s.data.toList[k]).toNat_lt
      obtain ⟨c, hcx⟩ : ∃ c, (s.data.toList[k]).toNat = c := ⟨_, rfl⟩
      rw [hcx] at hcx1 hc8
      have qk : (k : Int) < 16 := by omega
      have HOWN := Lib.hid hown
      have HBL := Lib.hid hbl
      have HCX := Lib.hid hcx
      clear hown hbl hcx0 hcx
      obtain ⟨wo, hwo⟩ : ∃ wo : World, wo = wr := ⟨_, rfl⟩
      subst hwo
      go_wp2_with fail
      go_loopw [10, 6] (fun t o wr => ∃ j : Nat, j ≤ 8 ∧ t = .int .i64 (7 - (j : Int)) ∧ wr.ownsRow w2.heap.size 3 1 o (8 * k + j) (((bitsL s.data.toList).take (8 * k + j)).map (Value.int .i64)) ∧ Below w2.heap.size w2 wr) (fun t _ _ => (intOf t + 1).toNat)
      case atStart => exact ⟨0, by omega, rfl, HOWN.out, HBL.out⟩
      case round =>
        obtain ⟨j, hj, rfl, hownj, hblj⟩ := hrel
        have hzj := hblj.size
        have hcx := HCX.out
        have HOJ := Lib.hid hownj
        have HBJ := Lib.hid hblj
        clear hblj hownj
        rcases (show j = 0 ∨ j = 1 ∨ j = 2 ∨ j = 3 ∨ j = 4 ∨ j = 5 ∨ j = 6 ∨ j = 7 ∨ j = 8 by omega) with rfl | rfl | rfl | rfl | rfl | rfl | rfl | rfl | rfl
        · have hbit := bit_get s.data.toList k 0 hkl (by decide)
          rw [hcx] at hbit
          clear hcx
          have hst := take_more (bitsL s.data.toList) (8 * k + 0) (by rw [bitsL_len, HLL.out]; omega)
          rw [hbit] at hst
          have hand : bits .and .u8 (((c / 128 : Nat)) : Int) 1 = ((c / 128 % 2 : Nat) : Int) := and_one _ (by omega)
          have hdiv : (c : Int) / 128 = ((c / 128 : Nat) : Int) := by omega
          obtain ⟨y, hy⟩ : ∃ y, c / 128 % 2 = y := ⟨_, rfl⟩
          rw [show c / 2 ^ (7 - 0) % 2 = y from hy] at hst
          rw [hy] at hand
          rw [← hdiv] at hand
          have HST := Lib.hid hst
          have hy2 : y < 2 := by omega
          clear hst hbit hy hdiv
          go_wp2_with (at_builtin; refine wpList_append_own _ rfl _ _ 24 rfl w2.heap.size 3 i0 (.int .i64 0) 1 8 Tryz.underlying24 hi hz0 hz1 hz2 rfl (by decide) _ _ _ rfl (HOJ.out.alloc _) ⟨wr.heap.size, 0, none⟩ 1 1 [.int .i64 (y : Int)] rfl rfl (fun j u hj => by have := cell_one_new wr (.int .i64 (y : Int)) 3 j u hj; simpa using this) (ints_oneCell .i64 [_]) (by unfold maxLen; omega) (by omega) (by simp; omega) ?_)
          intro v' w5 hown' hgrow _
          have hg := grown_past hgrow
          have hown2 : w5.ownsRow w2.heap.size 3 1 v' (8 * k + 1) (((bitsL s.data.toList).take (8 * k + 1)).map (Value.int .i64)) := by
            rw [show 8 * k + 1 = 8 * k + 0 + 1 from rfl, HST.out, List.map_append]; simpa using hown'
          have hul : ∀ g, (u6 : Value).ownBlock = some g → w2.heap.size ≤ g := fun g hg => (HOJ.out.lt g hg).1
          have HO5 := Lib.hid hown2
          have HB5 := Lib.hid (HBJ.out.grown hg hzj hul)
          clear hown' hgrow hg hown2 hul
          go_wp2_with fail
          go_roundw
          case measure => simp [intOf]
          case rel => exact ⟨1, by omega, rfl, HO5.out, HB5.out⟩
        · have hbit := bit_get s.data.toList k 1 hkl (by decide)
          rw [hcx] at hbit
          clear hcx
          have hst := take_more (bitsL s.data.toList) (8 * k + 1) (by rw [bitsL_len, HLL.out]; omega)
          rw [hbit] at hst
          have hand : bits .and .u8 (((c / 64 : Nat)) : Int) 1 = ((c / 64 % 2 : Nat) : Int) := and_one _ (by omega)
          have hdiv : (c : Int) / 64 = ((c / 64 : Nat) : Int) := by omega
          obtain ⟨y, hy⟩ : ∃ y, c / 64 % 2 = y := ⟨_, rfl⟩
          rw [show c / 2 ^ (7 - 1) % 2 = y from hy] at hst
          rw [hy] at hand
          rw [← hdiv] at hand
          have HST := Lib.hid hst
          have hy2 : y < 2 := by omega
          clear hst hbit hy hdiv
          go_wp2_with (at_builtin; refine wpList_append_own _ rfl _ _ 24 rfl w2.heap.size 3 i0 (.int .i64 0) 1 8 Tryz.underlying24 hi hz0 hz1 hz2 rfl (by decide) _ _ _ rfl (HOJ.out.alloc _) ⟨wr.heap.size, 0, none⟩ 1 1 [.int .i64 (y : Int)] rfl rfl (fun j u hj => by have := cell_one_new wr (.int .i64 (y : Int)) 3 j u hj; simpa using this) (ints_oneCell .i64 [_]) (by unfold maxLen; omega) (by omega) (by simp; omega) ?_)
          intro v' w5 hown' hgrow _
          have hg := grown_past hgrow
          have hown2 : w5.ownsRow w2.heap.size 3 1 v' (8 * k + 2) (((bitsL s.data.toList).take (8 * k + 2)).map (Value.int .i64)) := by
            rw [show 8 * k + 2 = 8 * k + 1 + 1 from rfl, HST.out, List.map_append]; simpa using hown'
          have hul : ∀ g, (u6 : Value).ownBlock = some g → w2.heap.size ≤ g := fun g hg => (HOJ.out.lt g hg).1
          have HO5 := Lib.hid hown2
          have HB5 := Lib.hid (HBJ.out.grown hg hzj hul)
          clear hown' hgrow hg hown2 hul
          go_wp2_with fail
          go_roundw
          case measure => simp [intOf]
          case rel => exact ⟨2, by omega, rfl, HO5.out, HB5.out⟩
        · have hbit := bit_get s.data.toList k 2 hkl (by decide)
          rw [hcx] at hbit
          clear hcx
          have hst := take_more (bitsL s.data.toList) (8 * k + 2) (by rw [bitsL_len, HLL.out]; omega)
          rw [hbit] at hst
          have hand : bits .and .u8 (((c / 32 : Nat)) : Int) 1 = ((c / 32 % 2 : Nat) : Int) := and_one _ (by omega)
          have hdiv : (c : Int) / 32 = ((c / 32 : Nat) : Int) := by omega
          obtain ⟨y, hy⟩ : ∃ y, c / 32 % 2 = y := ⟨_, rfl⟩
          rw [show c / 2 ^ (7 - 2) % 2 = y from hy] at hst
          rw [hy] at hand
          rw [← hdiv] at hand
          have HST := Lib.hid hst
          have hy2 : y < 2 := by omega
          clear hst hbit hy hdiv
          go_wp2_with (at_builtin; refine wpList_append_own _ rfl _ _ 24 rfl w2.heap.size 3 i0 (.int .i64 0) 1 8 Tryz.underlying24 hi hz0 hz1 hz2 rfl (by decide) _ _ _ rfl (HOJ.out.alloc _) ⟨wr.heap.size, 0, none⟩ 1 1 [.int .i64 (y : Int)] rfl rfl (fun j u hj => by have := cell_one_new wr (.int .i64 (y : Int)) 3 j u hj; simpa using this) (ints_oneCell .i64 [_]) (by unfold maxLen; omega) (by omega) (by simp; omega) ?_)
          intro v' w5 hown' hgrow _
          have hg := grown_past hgrow
          have hown2 : w5.ownsRow w2.heap.size 3 1 v' (8 * k + 3) (((bitsL s.data.toList).take (8 * k + 3)).map (Value.int .i64)) := by
            rw [show 8 * k + 3 = 8 * k + 2 + 1 from rfl, HST.out, List.map_append]; simpa using hown'
          have hul : ∀ g, (u6 : Value).ownBlock = some g → w2.heap.size ≤ g := fun g hg => (HOJ.out.lt g hg).1
          have HO5 := Lib.hid hown2
          have HB5 := Lib.hid (HBJ.out.grown hg hzj hul)
          clear hown' hgrow hg hown2 hul
          go_wp2_with fail
          go_roundw
          case measure => simp [intOf]
          case rel => exact ⟨3, by omega, rfl, HO5.out, HB5.out⟩
        · have hbit := bit_get s.data.toList k 3 hkl (by decide)
          rw [hcx] at hbit
          clear hcx
          have hst := take_more (bitsL s.data.toList) (8 * k + 3) (by rw [bitsL_len, HLL.out]; omega)
          rw [hbit] at hst
          have hand : bits .and .u8 (((c / 16 : Nat)) : Int) 1 = ((c / 16 % 2 : Nat) : Int) := and_one _ (by omega)
          have hdiv : (c : Int) / 16 = ((c / 16 : Nat) : Int) := by omega
          obtain ⟨y, hy⟩ : ∃ y, c / 16 % 2 = y := ⟨_, rfl⟩
          rw [show c / 2 ^ (7 - 3) % 2 = y from hy] at hst
          rw [hy] at hand
          rw [← hdiv] at hand
          have HST := Lib.hid hst
          have hy2 : y < 2 := by omega
          clear hst hbit hy hdiv
          go_wp2_with (at_builtin; refine wpList_append_own _ rfl _ _ 24 rfl w2.heap.size 3 i0 (.int .i64 0) 1 8 Tryz.underlying24 hi hz0 hz1 hz2 rfl (by decide) _ _ _ rfl (HOJ.out.alloc _) ⟨wr.heap.size, 0, none⟩ 1 1 [.int .i64 (y : Int)] rfl rfl (fun j u hj => by have := cell_one_new wr (.int .i64 (y : Int)) 3 j u hj; simpa using this) (ints_oneCell .i64 [_]) (by unfold maxLen; omega) (by omega) (by simp; omega) ?_)
          intro v' w5 hown' hgrow _
          have hg := grown_past hgrow
          have hown2 : w5.ownsRow w2.heap.size 3 1 v' (8 * k + 4) (((bitsL s.data.toList).take (8 * k + 4)).map (Value.int .i64)) := by
            rw [show 8 * k + 4 = 8 * k + 3 + 1 from rfl, HST.out, List.map_append]; simpa using hown'
          have hul : ∀ g, (u6 : Value).ownBlock = some g → w2.heap.size ≤ g := fun g hg => (HOJ.out.lt g hg).1
          have HO5 := Lib.hid hown2
          have HB5 := Lib.hid (HBJ.out.grown hg hzj hul)
          clear hown' hgrow hg hown2 hul
          go_wp2_with fail
          go_roundw
          case measure => simp [intOf]
          case rel => exact ⟨4, by omega, rfl, HO5.out, HB5.out⟩
        · have hbit := bit_get s.data.toList k 4 hkl (by decide)
          rw [hcx] at hbit
          clear hcx
          have hst := take_more (bitsL s.data.toList) (8 * k + 4) (by rw [bitsL_len, HLL.out]; omega)
          rw [hbit] at hst
          have hand : bits .and .u8 (((c / 8 : Nat)) : Int) 1 = ((c / 8 % 2 : Nat) : Int) := and_one _ (by omega)
          have hdiv : (c : Int) / 8 = ((c / 8 : Nat) : Int) := by omega
          obtain ⟨y, hy⟩ : ∃ y, c / 8 % 2 = y := ⟨_, rfl⟩
          rw [show c / 2 ^ (7 - 4) % 2 = y from hy] at hst
          rw [hy] at hand
          rw [← hdiv] at hand
          have HST := Lib.hid hst
          have hy2 : y < 2 := by omega
          clear hst hbit hy hdiv
          go_wp2_with (at_builtin; refine wpList_append_own _ rfl _ _ 24 rfl w2.heap.size 3 i0 (.int .i64 0) 1 8 Tryz.underlying24 hi hz0 hz1 hz2 rfl (by decide) _ _ _ rfl (HOJ.out.alloc _) ⟨wr.heap.size, 0, none⟩ 1 1 [.int .i64 (y : Int)] rfl rfl (fun j u hj => by have := cell_one_new wr (.int .i64 (y : Int)) 3 j u hj; simpa using this) (ints_oneCell .i64 [_]) (by unfold maxLen; omega) (by omega) (by simp; omega) ?_)
          intro v' w5 hown' hgrow _
          have hg := grown_past hgrow
          have hown2 : w5.ownsRow w2.heap.size 3 1 v' (8 * k + 5) (((bitsL s.data.toList).take (8 * k + 5)).map (Value.int .i64)) := by
            rw [show 8 * k + 5 = 8 * k + 4 + 1 from rfl, HST.out, List.map_append]; simpa using hown'
          have hul : ∀ g, (u6 : Value).ownBlock = some g → w2.heap.size ≤ g := fun g hg => (HOJ.out.lt g hg).1
          have HO5 := Lib.hid hown2
          have HB5 := Lib.hid (HBJ.out.grown hg hzj hul)
          clear hown' hgrow hg hown2 hul
          go_wp2_with fail
          go_roundw
          case measure => simp [intOf]
          case rel => exact ⟨5, by omega, rfl, HO5.out, HB5.out⟩
        · have hbit := bit_get s.data.toList k 5 hkl (by decide)
          rw [hcx] at hbit
          clear hcx
          have hst := take_more (bitsL s.data.toList) (8 * k + 5) (by rw [bitsL_len, HLL.out]; omega)
          rw [hbit] at hst
          have hand : bits .and .u8 (((c / 4 : Nat)) : Int) 1 = ((c / 4 % 2 : Nat) : Int) := and_one _ (by omega)
          have hdiv : (c : Int) / 4 = ((c / 4 : Nat) : Int) := by omega
          obtain ⟨y, hy⟩ : ∃ y, c / 4 % 2 = y := ⟨_, rfl⟩
          rw [show c / 2 ^ (7 - 5) % 2 = y from hy] at hst
          rw [hy] at hand
          rw [← hdiv] at hand
          have HST := Lib.hid hst
          have hy2 : y < 2 := by omega
          clear hst hbit hy hdiv
          go_wp2_with (at_builtin; refine wpList_append_own _ rfl _ _ 24 rfl w2.heap.size 3 i0 (.int .i64 0) 1 8 Tryz.underlying24 hi hz0 hz1 hz2 rfl (by decide) _ _ _ rfl (HOJ.out.alloc _) ⟨wr.heap.size, 0, none⟩ 1 1 [.int .i64 (y : Int)] rfl rfl (fun j u hj => by have := cell_one_new wr (.int .i64 (y : Int)) 3 j u hj; simpa using this) (ints_oneCell .i64 [_]) (by unfold maxLen; omega) (by omega) (by simp; omega) ?_)
          intro v' w5 hown' hgrow _
          have hg := grown_past hgrow
          have hown2 : w5.ownsRow w2.heap.size 3 1 v' (8 * k + 6) (((bitsL s.data.toList).take (8 * k + 6)).map (Value.int .i64)) := by
            rw [show 8 * k + 6 = 8 * k + 5 + 1 from rfl, HST.out, List.map_append]; simpa using hown'
          have hul : ∀ g, (u6 : Value).ownBlock = some g → w2.heap.size ≤ g := fun g hg => (HOJ.out.lt g hg).1
          have HO5 := Lib.hid hown2
          have HB5 := Lib.hid (HBJ.out.grown hg hzj hul)
          clear hown' hgrow hg hown2 hul
          go_wp2_with fail
          go_roundw
          case measure => simp [intOf]
          case rel => exact ⟨6, by omega, rfl, HO5.out, HB5.out⟩
        · have hbit := bit_get s.data.toList k 6 hkl (by decide)
          rw [hcx] at hbit
          clear hcx
          have hst := take_more (bitsL s.data.toList) (8 * k + 6) (by rw [bitsL_len, HLL.out]; omega)
          rw [hbit] at hst
          have hand : bits .and .u8 (((c / 2 : Nat)) : Int) 1 = ((c / 2 % 2 : Nat) : Int) := and_one _ (by omega)
          have hdiv : (c : Int) / 2 = ((c / 2 : Nat) : Int) := by omega
          obtain ⟨y, hy⟩ : ∃ y, c / 2 % 2 = y := ⟨_, rfl⟩
          rw [show c / 2 ^ (7 - 6) % 2 = y from hy] at hst
          rw [hy] at hand
          rw [← hdiv] at hand
          have HST := Lib.hid hst
          have hy2 : y < 2 := by omega
          clear hst hbit hy hdiv
          go_wp2_with (at_builtin; refine wpList_append_own _ rfl _ _ 24 rfl w2.heap.size 3 i0 (.int .i64 0) 1 8 Tryz.underlying24 hi hz0 hz1 hz2 rfl (by decide) _ _ _ rfl (HOJ.out.alloc _) ⟨wr.heap.size, 0, none⟩ 1 1 [.int .i64 (y : Int)] rfl rfl (fun j u hj => by have := cell_one_new wr (.int .i64 (y : Int)) 3 j u hj; simpa using this) (ints_oneCell .i64 [_]) (by unfold maxLen; omega) (by omega) (by simp; omega) ?_)
          intro v' w5 hown' hgrow _
          have hg := grown_past hgrow
          have hown2 : w5.ownsRow w2.heap.size 3 1 v' (8 * k + 7) (((bitsL s.data.toList).take (8 * k + 7)).map (Value.int .i64)) := by
            rw [show 8 * k + 7 = 8 * k + 6 + 1 from rfl, HST.out, List.map_append]; simpa using hown'
          have hul : ∀ g, (u6 : Value).ownBlock = some g → w2.heap.size ≤ g := fun g hg => (HOJ.out.lt g hg).1
          have HO5 := Lib.hid hown2
          have HB5 := Lib.hid (HBJ.out.grown hg hzj hul)
          clear hown' hgrow hg hown2 hul
          go_wp2_with fail
          go_roundw
          case measure => simp [intOf]
          case rel => exact ⟨7, by omega, rfl, HO5.out, HB5.out⟩
        · have hbit := bit_get s.data.toList k 7 hkl (by decide)
          rw [hcx] at hbit
          clear hcx
          have hst := take_more (bitsL s.data.toList) (8 * k + 7) (by rw [bitsL_len, HLL.out]; omega)
          rw [hbit] at hst
          have hand : bits .and .u8 ((c : Nat) : Int) 1 = ((c / 1 % 2 : Nat) : Int) := by rw [Nat.div_one]; exact and_one _ (by omega)
          have hdiv : (c : Int) / 1 = ((c / 1 : Nat) : Int) := by omega
          obtain ⟨y, hy⟩ : ∃ y, c / 1 % 2 = y := ⟨_, rfl⟩
          rw [show c / 2 ^ (7 - 7) % 2 = y from hy] at hst
          rw [hy] at hand
          skip
          have HST := Lib.hid hst
          have hy2 : y < 2 := by omega
          clear hst hbit hy hdiv
          go_wp2_with (at_builtin; refine wpList_append_own _ rfl _ _ 24 rfl w2.heap.size 3 i0 (.int .i64 0) 1 8 Tryz.underlying24 hi hz0 hz1 hz2 rfl (by decide) _ _ _ rfl (HOJ.out.alloc _) ⟨wr.heap.size, 0, none⟩ 1 1 [.int .i64 (y : Int)] rfl rfl (fun j u hj => by have := cell_one_new wr (.int .i64 (y : Int)) 3 j u hj; simpa using this) (ints_oneCell .i64 [_]) (by unfold maxLen; omega) (by omega) (by simp; omega) ?_)
          intro v' w5 hown' hgrow _
          have hg := grown_past hgrow
          have hown2 : w5.ownsRow w2.heap.size 3 1 v' (8 * k + 8) (((bitsL s.data.toList).take (8 * k + 8)).map (Value.int .i64)) := by
            rw [show 8 * k + 8 = 8 * k + 7 + 1 from rfl, HST.out, List.map_append]; simpa using hown'
          have hul : ∀ g, (u6 : Value).ownBlock = some g → w2.heap.size ≤ g := fun g hg => (HOJ.out.lt g hg).1
          have HO5 := Lib.hid hown2
          have HB5 := Lib.hid (HBJ.out.grown hg hzj hul)
          clear hown' hgrow hg hown2 hul
          go_wp2_with fail
          go_roundw
          case measure => simp [intOf]
          case rel => exact ⟨8, by omega, rfl, HO5.out, HB5.out⟩
        · clear hcx
          go_wp2_with fail
          go_roundw
          case measure => simp [intOf]; omega
          case rel => exact ⟨k + 1, by omega, by go_num, HOJ.out, HBJ.out⟩
    · have hk6 : k = 16 := by omega
      subst hk6
      have HOWN := Lib.hid hown
      have HBL := Lib.hid hbl
      clear hown hbl
      go_wp2_with fail
      go_ret2
      have h := HOWN.out
      rw [List.take_of_length_le (by rw [bitsL_len, HLL.out]; decide)] at h
      exact ⟨_, rfl, (IntsAt.of_own h).mono (fun b hb => ⟨by have := hb.1; omega, hb.2⟩), HB2.out.trans (HBL.out.mono HB2.out.size)⟩
end Go.Proofs.YtjfphobfikadlaaGreatDoor
