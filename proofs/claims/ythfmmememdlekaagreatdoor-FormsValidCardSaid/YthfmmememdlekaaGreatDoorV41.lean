/- Contracts: the sum of a list of texts, the program's and the reference's. Contracts: the bytes of texts and of lists of texts, the program's and the reference's. -/
import Derived.Test.YthfmmememdlekaaGreatDoorV40
import Derived.Test.YthfmmememdlekaaGreatDoorV07
import Derived.Test.YthfmmememdlekaaGreatDoorV39
set_option linter.unusedVariables false
set_option linter.unusedSimpArgs false
namespace Go.Proofs.YthfmmememdlekaaGreatDoor
open Go.RowKit Num

/-- What is summed of a list of texts, so many of them. -/
def oneL (s : ByteArray) : List UInt8 := fourL s.size ++ blOf s
def listL (ss : List ByteArray) (k : Nat) : List UInt8 := 2 :: fourL ss.length ++ (ss.take k).flatMap oneL
def listS (ss : List ByteArray) : ByteArray := shaOf ⟨(listL ss ss.length).toArray⟩
theorem listL_succ {ss : List ByteArray} {k : Nat} (h : k < ss.length) : listL ss (k + 1) = listL ss k ++ oneL (ss.getD k ⟨#[]⟩) := by
  unfold listL
  rw [List.take_succ_eq_append_getElem h, List.flatMap_append, List.flatMap_cons, List.flatMap_nil, List.append_nil, List.getD_eq_getElem?_getD, List.getElem?_eq_getElem h, List.append_assoc]
  rfl
theorem oneL_len (s : ByteArray) : (oneL s).length = 4 + s.size := by unfold oneL; rw [List.length_append, blOf_len]; rfl
theorem listL_len {ss : List ByteArray} {M : Nat} (hs : ∀ k, k < ss.length → (ss.getD k ⟨#[]⟩).size ≤ M) : ∀ k, k ≤ ss.length → (listL ss k).length ≤ 5 + k * (4 + M) := by
  intro k
  induction k with
  | zero => intro _; show (2 :: fourL ss.length ++ []).length ≤ _; simp [fourL]
  | succ k ih =>
    intro h
    rw [listL_succ (by omega), List.length_append, oneL_len]
    have h1 := ih (by omega)
    have h2 := hs k (by omega)
    rw [Nat.succ_mul]
    omega
theorem bldF_below {B b : Nat} {bs : List Value} {w w' : World} (h : BldF B b bs w) (hb : Below w.heap.size w w') : BldF B b bs w' := by
  rcases h with h | h
  · have hlt := Lib.BuilderAtF.lt h
    obtain ⟨hB, v, hbk, hown, hne⟩ := h
    exact .inl ⟨hB, v, (hb.block b hlt).trans hbk, hown.kept (only_of_below hb none) (by cases hv : v.ownBlock <;> simp), hne⟩
  · exact .inr (bldU_below h hb)
def LstE (ss : List ByteArray) (w : World) (e : Ending) (w' : World) : Prop := e = .returned (.string (listS ss)) ∧ Below w.heap.size w w'
theorem one_cells (x y : ByteArray) (h : fourB x.size = y) : Lib.strCells (y ++ x) = Lib.byteCells (oneL x) := by
  rw [← h]
  show Lib.strCells ((⟨(fourL x.size).toArray⟩ : ByteArray) ++ ⟨(blOf x).toArray⟩) = _
  rw [bytes_two]
  rfl
theorem one_bytes (x y : ByteArray) (l : List UInt8) (h : fourB x.size = y) : (⟨l.toArray⟩ : ByteArray) ++ (y ++ x) = ⟨(l ++ oneL x).toArray⟩ := by
  rw [← h]
  show (⟨l.toArray⟩ : ByteArray) ++ ((⟨(fourL x.size).toArray⟩ : ByteArray) ++ ⟨(blOf x).toArray⟩) = _
  rw [bytes_two, bytes_two]
  rfl
set_option maxRecDepth 100000 in
set_option maxHeartbeats 2000000 in
theorem d_List (v : Value) (ss : List ByteArray) (S : Nat → Prop) (w : World) (hv : TxsAt w S v ss) (hS : ∀ b, S b → b < w.heap.size) (hl : ss.length ≤ 1000) (hs : ∀ k, k < ss.length → (ss.getD k ⟨#[]⟩).size ≤ 1000000) :
    Calls Tryz.prog 51 #[v] w (LstE ss w) := by
  obtain ⟨A, n, c, rfl, hn, hnc, hc⟩ := hv
  have hn1 : n ≤ 1000 := by omega
  have hll := fun k hk => listL_len (M := 1000000) hs k hk
  have hl0 : Lib.byteCells (listL ss 0) = [] ++ Lib.strCells ((⟨#[2]⟩ : ByteArray) ++ fourB ss.length) := by
    show Lib.byteCells (listL ss 0) = Lib.strCells ((⟨[2].toArray⟩ : ByteArray) ++ ⟨(fourL ss.length).toArray⟩)
    rw [bytes_two]
    rfl
  obtain ⟨y0, hy0⟩ : ∃ y, fourB ss.length = y := ⟨_, rfl⟩
  have hys : y0.size = 4 := by rw [← hy0]; rfl
  have h4 := fun W => d_four n W (by omega)
  unfold FourPost at h4
  rw [hn, hy0, ← hn] at h4
  rw [hy0] at hl0
  have hsz2 : ((⟨#[2]⟩ : ByteArray) ++ y0).size = 5 := by rw [ByteArray.size_append, hys]; rfl
  have H4 := Lib.hid h4
  have HLL := Lib.hid hll
  have HL0 := Lib.hid hl0
  have HC := Lib.hid hc
  have HN := Lib.hid hn
  have HSS := Lib.hid hs
  have HS := Lib.hid hS
  have HZ2 := Lib.hid hsz2
  clear hn hc hs hS hl hll hl0 h4 hy0 hsz2
  go_enter Tryz.func51, Tryz.ntmps51
  go_wp2_with fail
  refine (H4.out _).mono ?_
  rintro e w1 ⟨rfl, hb1⟩
  have hs1 := hb1.size
  simp only [World.size_alloc] at hs1
  have hB : BldF w.heap.size w.heap.size [] (w.alloc (.cells #[.pointer none, .slice none 0 0] 142)) := Lib.IsBuilderF.of (Lib.fresh_isBuilder _ _ _)
  have hB1 := bldF_below hB hb1
  go_wp2_with fail
  refine (b_WriteString w.heap.size w.heap.size [] ((⟨#[2]⟩ : ByteArray) ++ y0) _ hB1 (by rw [HZ2.out]; decide) (by omega)).mono ?_
  rintro e w2 ⟨rfl, h2, hb2⟩
  rw [← HL0.out] at h2
  have hbl2 : Below w.heap.size w w2 := (((Below.refl _ _).alloc (Nat.le_refl _) _).trans (hb1.mono (by simp))).trans hb2
  have HB2 := Lib.hid hbl2
  have HU2 := Lib.hid h2
  clear hb1 hb2 h2 hB hB1 hbl2 HL0 HZ2 H4 hs1
  go_wp2_with fail
  go_loopw [13] (fun v13 wr => ∃ k : Nat, k ≤ n ∧ v13 = .int .i64 (k : Int) ∧ BldU w.heap.size w.heap.size (Lib.byteCells (listL ss k)) wr ∧ Below w.heap.size w wr) (fun v13 _ => n - (intOf v13).toNat)
  case atStart => exact ⟨0, by omega, rfl, HU2.out, HB2.out⟩
  case round =>
    clear HU2 HB2
    obtain ⟨k, hk, rfl, hu, hb⟩ := hrel
    have HU := Lib.hid hu
    have HB := Lib.hid hb
    have hsz := hb.size
    clear hu hb
    by_cases hlt : k < n
    · obtain ⟨b, off, rfl, hSb, hcell⟩ := HC.out (by omega)
      have hbw := HS.out b hSb
      have hkl : k < ss.length := by have := HN.out; omega
      have cx := (HB.out.cell (p := ⟨b, off + k, none⟩) hbw).trans (hcell k hlt)
      have hxs := HSS.out k hkl
      have hnext := listL_succ hkl
      have hlen := HLL.out k (by have := HN.out; omega)
      obtain ⟨x, hx⟩ : ∃ x, ss.getD k ⟨#[]⟩ = x := ⟨_, rfl⟩
      rw [hx] at cx hxs hnext
      obtain ⟨y, hy⟩ : ∃ y, fourB x.size = y := ⟨_, rfl⟩
      have hone := one_cells x y hy
      have hyz : y.size = 4 := by rw [← hy]; rfl
      have hyx : (y ++ x).size = 4 + x.size := by rw [ByteArray.size_append, hyz]
      have h4 := fun W => d_four x.size W (by omega)
      unfold FourPost at h4
      rw [hy] at h4
      have H4 := Lib.hid h4
      have HONE := Lib.hid hone
      have HNX := Lib.hid hnext
      have HLEN := Lib.hid hlen
      have HYX := Lib.hid hyx
      have zi : (k : Int) < (n : Int) := by omega
      have z0 : (0 : Int) ≤ (k : Int) := by omega
      clear hcell hkl hnext hlen hx hy hone hyx h4
      go_wp2_with fail
      refine (H4.out _).mono ?_
      rintro e w3 ⟨rfl, hb3⟩
      have h3 := bldU_below HU.out hb3
      have HB3 := Lib.hid (HB.out.trans (hb3.mono hsz))
      have hs3 := hb3.size
      clear hb3
      go_wp2_with fail
      refine (b_WriteString w.heap.size w.heap.size _ (y ++ x) _ (.inr h3) (by have := HLEN.out; have := HYX.out; rw [Lib.byteCells_length]; omega) (by omega)).mono ?_
      rintro e w5 ⟨rfl, h5, hb5⟩
      rw [HONE.out, ← byteCells_app, ← HNX.out] at h5
      have HU5 := Lib.hid h5
      have HB5 := Lib.hid (HB3.out.trans hb5)
      clear h5 hb5 h3
      go_wp2_with fail
      go_roundw
      case measure => simp [intOf]; omega
      case rel => exact ⟨k + 1, by omega, by go_num, HU5.out, HB5.out⟩
    · have zi : ¬ (k : Int) < (n : Int) := by omega
      have hkn : k = ss.length := by have := HN.out; omega
      have hlen := HLL.out k (by have := HN.out; omega)
      have hu := HU.out
      have he : listS ss = shaOf ⟨(listL ss k).toArray⟩ := by unfold listS; rw [hkn]
      have hz : (⟨(listL ss k).toArray⟩ : ByteArray).size < 4294967296 := by
        show (listL ss k).toArray.size < _
        rw [List.size_toArray]
        omega
      have HE := Lib.hid he
      have HZ := Lib.hid hz
      clear hkn hlen he hz
      go_wp2_with fail
      refine (Tryz.Builder_String_any_f w.heap.size w.heap.size _ _ (.inr hu) hsz).mono ?_
      rintro e w5 ⟨rfl, _, hb5⟩
      have HB5 := Lib.hid (HB.out.trans hb5)
      clear hb5 hu
      obtain ⟨m, hm⟩ : ∃ m : ByteArray, ⟨(listL ss k).toArray⟩ = m := ⟨_, rfl⟩
      rw [hm] at HE HZ ⊢
      clear hm
      go_wp2_with fail
      refine (d_Sum m _ HZ.out).mono ?_
      rintro e w6 ⟨rfl, hb6⟩
      have HB6 := Lib.hid (HB5.out.trans (hb6.mono HB5.out.size))
      clear hb6
      go_wp2_with fail
      go_ret
      exact ⟨by rw [HE.out]; rfl, HB6.out⟩
set_option maxRecDepth 100000 in
set_option maxHeartbeats 2000000 in
theorem rf_List (v : Value) (ss : List ByteArray) (S : Nat → Prop) (w : World) (hv : TxsAt w S v ss) (hS : ∀ b, S b → b < w.heap.size) (hl : ss.length ≤ 1000) (hs : ∀ k, k < ss.length → (ss.getD k ⟨#[]⟩).size ≤ 1000000) :
    Calls Tryz.prog 54 #[v] w (LstE ss w) := by
  obtain ⟨A, n, c, rfl, hn, hnc, hc⟩ := hv
  have hn1 : n ≤ 1000 := by omega
  have hll := fun k hk => listL_len (M := 1000000) hs k hk
  have hl0 : (⟨#[2]⟩ : ByteArray) ++ fourB ss.length = ⟨(listL ss 0).toArray⟩ := by
    show (⟨[2].toArray⟩ : ByteArray) ++ ⟨(fourL ss.length).toArray⟩ = _
    rw [bytes_two]
    rfl
  obtain ⟨y0, hy0⟩ : ∃ y, fourB ss.length = y := ⟨_, rfl⟩
  have hys : y0.size = 4 := by rw [← hy0]; rfl
  have h4 := fun W => rf_Four n W (by omega)
  unfold FourPost at h4
  rw [hn, hy0, ← hn] at h4
  rw [hy0] at hl0
  have hsz2 : ((⟨#[2]⟩ : ByteArray) ++ y0).size = 5 := by rw [ByteArray.size_append, hys]; rfl
  have H4 := Lib.hid h4
  have HLL := Lib.hid hll
  have HL0 := Lib.hid hl0
  have HC := Lib.hid hc
  have HN := Lib.hid hn
  have HSS := Lib.hid hs
  have HS := Lib.hid hS
  clear hn hc hs hS hl hll hl0 h4 hy0
  go_enter Tryz.func54, Tryz.ntmps54
  go_wp2_with fail
  refine (H4.out _).mono ?_
  rintro e w1 ⟨rfl, hb1⟩
  have HB1 := Lib.hid hb1
  clear hb1 H4
  go_wp2_with fail
  go_loopw [3, 12] (fun v3 v12 wr => ∃ k : Nat, k ≤ n ∧ v12 = .int .i64 (k : Int) ∧ v3 = .string ⟨(listL ss k).toArray⟩ ∧ Below w.heap.size w wr) (fun _ v12 _ => n - (intOf v12).toNat)
  case atStart => exact ⟨0, by omega, rfl, by rw [← HL0.out], HB1.out⟩
  case round =>
    clear HB1 HL0
    obtain ⟨k, hk, rfl, rfl, hb⟩ := hrel
    have HB := Lib.hid hb
    have hsz := hb.size
    clear hb
    have hlen := HLL.out k (by have := HN.out; omega)
    have hlz : (⟨(listL ss k).toArray⟩ : ByteArray).size ≤ 5 + k * (4 + 1000000) := by
      show (listL ss k).toArray.size ≤ _
      rw [List.size_toArray]
      exact hlen
    have hlz2 : (⟨(listL ss k).toArray⟩ : ByteArray).size ≤ 2000000000 := by omega
    by_cases hlt : k < n
    · obtain ⟨b, off, rfl, hSb, hcell⟩ := HC.out (by omega)
      have hbw := HS.out b hSb
      have hkl : k < ss.length := by have := HN.out; omega
      have cx := (HB.out.cell (p := ⟨b, off + k, none⟩) hbw).trans (hcell k hlt)
      have hxs := HSS.out k hkl
      have hnext := listL_succ hkl
      obtain ⟨x, hx⟩ : ∃ x, ss.getD k ⟨#[]⟩ = x := ⟨_, rfl⟩
      rw [hx] at cx hxs hnext
      obtain ⟨y, hy⟩ : ∃ y, fourB x.size = y := ⟨_, rfl⟩
      have hone := one_bytes x y (listL ss k) hy
      rw [← hnext] at hone
      have hyz : y.size = 4 := by rw [← hy]; rfl
      have hyx : (y ++ x).size = 4 + x.size := by rw [ByteArray.size_append, hyz]
      have h4 := fun W => rf_Four x.size W (by omega)
      unfold FourPost at h4
      rw [hy] at h4
      obtain ⟨q, hq⟩ : ∃ q : ByteArray, ⟨(listL ss k).toArray⟩ = q := ⟨_, rfl⟩
      rw [hq] at hlz2 hone ⊢
      have H4 := Lib.hid h4
      have HONE := Lib.hid hone
      have zi : (k : Int) < (n : Int) := by omega
      have z0 : (0 : Int) ≤ (k : Int) := by omega
      have hz1 : ¬ 9223372036854775807 < y.size + x.size := by omega
      have hz2 : ¬ 9223372036854775807 < q.size + (y ++ x).size := by omega
      have hz3 : ¬ 9223372036854775807 < q.size + (y.size + x.size) := by omega
      clear hcell hkl hnext hx hy hone h4 hlen hlz hq hyx
      go_wp2_with fail
      refine (H4.out _).mono ?_
      rintro e w3 ⟨rfl, hb3⟩
      have HB3 := Lib.hid (HB.out.trans (hb3.mono hsz))
      clear hb3
      go_wp2_with fail
      go_roundw
      case measure => simp [intOf]; omega
      case rel => exact ⟨k + 1, by omega, by go_num, by rw [HONE.out], HB3.out⟩
    · have zi : ¬ (k : Int) < (n : Int) := by omega
      have hkn : k = ss.length := by have := HN.out; omega
      have he : listS ss = shaOf ⟨(listL ss k).toArray⟩ := by unfold listS; rw [hkn]
      have HE := Lib.hid he
      clear hkn he hlen hlz
      obtain ⟨m, hm⟩ : ∃ m : ByteArray, ⟨(listL ss k).toArray⟩ = m := ⟨_, rfl⟩
      rw [hm] at HE hlz2 ⊢
      clear hm
      go_wp2_with fail
      refine (rf_Sum m _ (by omega)).mono ?_
      rintro e w6 ⟨rfl, hb6⟩
      have HB6 := Lib.hid (HB.out.trans (hb6.mono hsz))
      clear hb6
      go_wp2_with fail
      go_ret
      exact ⟨by rw [HE.out]; rfl, HB6.out⟩
end Go.Proofs.YthfmmememdlekaaGreatDoor
namespace Go.Proofs.YthfmmememdlekaaGreatDoor
open Go.RowKit Num

/-- The bytes of a text, and of a list of texts, so many of them. -/
def textL (s : ByteArray) : List UInt8 := putB s.size ++ blOf s
def textsL (ss : List ByteArray) (k : Nat) : List UInt8 := putB ss.length ++ (ss.take k).flatMap textL
def textsB (ss : List ByteArray) : ByteArray := ⟨(textsL ss ss.length).toArray⟩
theorem textsL_succ {ss : List ByteArray} {k : Nat} (h : k < ss.length) : textsL ss (k + 1) = textsL ss k ++ textL (ss.getD k ⟨#[]⟩) := by
  unfold textsL
  rw [List.take_succ_eq_append_getElem h, List.flatMap_append, List.flatMap_cons, List.flatMap_nil, List.append_nil, List.getD_eq_getElem?_getD, List.getElem?_eq_getElem h, List.append_assoc]
  rfl
theorem textL_len (s : ByteArray) : (textL s).length ≤ 11 + s.size := by
  unfold textL
  rw [List.length_append, blOf_len]
  have := putB_len (s.size : Int)
  omega
theorem textsL_len {ss : List ByteArray} {M : Nat} (hs : ∀ k, k < ss.length → (ss.getD k ⟨#[]⟩).size ≤ M) : ∀ k, k ≤ ss.length → (textsL ss k).length ≤ 11 + k * (11 + M) := by
  intro k
  induction k with
  | zero => intro _; show (putB ss.length ++ []).length ≤ _; rw [List.append_nil]; have := putB_len (ss.length : Int); omega
  | succ k ih =>
    intro h
    rw [textsL_succ (by omega), List.length_append]
    have h1 := ih (by omega)
    have h2 := hs k (by omega)
    have h3 := textL_len (ss.getD k ⟨#[]⟩)
    rw [Nat.succ_mul]
    omega
theorem put_text (b s : ByteArray) : b ++ ⟨(putB (s.size : Int)).toArray⟩ ++ s = b ++ ⟨(textL s).toArray⟩ := by
  have e : (⟨(textL s).toArray⟩ : ByteArray) = ⟨(putB (s.size : Int)).toArray⟩ ++ s := by
    show _ = (⟨(putB (s.size : Int)).toArray⟩ : ByteArray) ++ ⟨(blOf s).toArray⟩
    rw [bytes_two]
    rfl
  rw [e, ByteArray.append_assoc]
def TxtPost (b s : ByteArray) (w : World) (e : Ending) (w' : World) : Prop := e = .returned (.string (b ++ ⟨(textL s).toArray⟩)) ∧ Below w.heap.size w w'
set_option maxRecDepth 100000 in
set_option maxHeartbeats 1000000 in
theorem c_PutText (b s : ByteArray) (w : World) (hb : b.size < 4000000000) (hs : s.size ≤ 4294967295) :
    Calls Tryz.prog 87 #[.string b, .string s] w (TxtPost b s w) := by
  have hp := fun W => c_PutInt b (s.size : Int) W (by omega) (by omega) (by omega)
  unfold PutPost at hp
  have hl := putB_len (s.size : Int)
  have he := put_text b s
  obtain ⟨x, hx⟩ : ∃ x : ByteArray, ⟨(putB (s.size : Int)).toArray⟩ = x := ⟨_, rfl⟩
  have hxs : x.size ≤ 11 := by rw [← hx]; show (putB (s.size : Int)).toArray.size ≤ 11; rw [List.size_toArray]; exact hl
  rw [hx] at hp he
  have hbx : (b ++ x).size = b.size + x.size := ByteArray.size_append
  obtain ⟨y, hy⟩ : ∃ y, b ++ x = y := ⟨_, rfl⟩
  rw [hy] at hp he hbx
  have hys : y.size ≤ 4000000011 := by omega
  have hz : ¬ 9223372036854775807 < y.size + s.size := by omega
  have HP := Lib.hid hp
  have HE := Lib.hid he
  clear hp he hl hx hbx hy
  go_enter Tryz.func87, Tryz.ntmps87
  go_wp2_with fail
  refine (HP.out _).mono ?_
  rintro e w1 ⟨rfl, hb1⟩
  have HB1 := Lib.hid hb1
  clear hb1
  go_wp2_with fail
  go_ret
  exact ⟨by rw [← HE.out]; rfl, HB1.out⟩
set_option maxRecDepth 100000 in
set_option maxHeartbeats 1000000 in
theorem rf_PutText (b s : ByteArray) (w : World) (hb : b.size < 4000000000) (hs : s.size ≤ 4294967295) :
    Calls Tryz.prog 92 #[.string b, .string s] w (TxtPost b s w) := by
  have hp := fun W => rf_PutIntG b (s.size : Int) W (by omega) (by omega) (by omega)
  unfold PutPost at hp
  have hl := putB_len (s.size : Int)
  have he := put_text b s
  obtain ⟨x, hx⟩ : ∃ x : ByteArray, ⟨(putB (s.size : Int)).toArray⟩ = x := ⟨_, rfl⟩
  have hxs : x.size ≤ 11 := by rw [← hx]; show (putB (s.size : Int)).toArray.size ≤ 11; rw [List.size_toArray]; exact hl
  rw [hx] at hp he
  have hbx : (b ++ x).size = b.size + x.size := ByteArray.size_append
  obtain ⟨y, hy⟩ : ∃ y, b ++ x = y := ⟨_, rfl⟩
  rw [hy] at hp he hbx
  have hys : y.size ≤ 4000000011 := by omega
  have hz : ¬ 9223372036854775807 < y.size + s.size := by omega
  have HP := Lib.hid hp
  have HE := Lib.hid he
  clear hp he hl hx hbx hy
  go_enter Tryz.func92, Tryz.ntmps92
  go_wp2_with fail
  refine (HP.out _).mono ?_
  rintro e w1 ⟨rfl, hb1⟩
  have HB1 := Lib.hid hb1
  clear hb1
  go_wp2_with fail
  go_ret
  exact ⟨by rw [← HE.out]; rfl, HB1.out⟩
def TxsE (ss : List ByteArray) (w : World) (e : Ending) (w' : World) : Prop := e = .returned (.string (textsB ss)) ∧ Below w.heap.size w w'
set_option maxRecDepth 100000 in
set_option maxHeartbeats 2000000 in
theorem rf_PutTexts (v : Value) (ss : List ByteArray) (S : Nat → Prop) (w : World) (hv : TxsAt w S v ss) (hS : ∀ b, S b → b < w.heap.size) (hl : ss.length ≤ 1000) (hs : ∀ k, k < ss.length → (ss.getD k ⟨#[]⟩).size ≤ 1000000) :
    Calls Tryz.prog 53 #[.string ⟨#[]⟩, v] w (TxsE ss w) := by
  obtain ⟨A, n, c, rfl, hn, hnc, hc⟩ := hv
  have hn1 : n ≤ 1000 := by omega
  have hll := fun k hk => textsL_len (M := 1000000) hs k hk
  have hp0 := fun W => rf_PutIntG ⟨#[]⟩ (n : Int) W (by omega) (by omega) (by decide)
  unfold PutPost at hp0
  rw [bytes_empty] at hp0
  have hl0 : (⟨(putB (n : Int)).toArray⟩ : ByteArray) = ⟨(textsL ss 0).toArray⟩ := by
    unfold textsL
    rw [List.take_zero, List.flatMap_nil, List.append_nil, hn]
  rw [hl0] at hp0
  have HP0 := Lib.hid hp0
  have HLL := Lib.hid hll
  have HC := Lib.hid hc
  have HN := Lib.hid hn
  have HSS := Lib.hid hs
  have HS := Lib.hid hS
  clear hn hc hs hS hl hll hl0 hp0
  go_enter Tryz.func53, Tryz.ntmps53
  go_wp2_with fail
  refine (HP0.out _).mono ?_
  rintro e w1 ⟨rfl, hb1⟩
  have HB1 := Lib.hid hb1
  clear hb1 HP0
  go_wp2_with fail
  go_loopw [0, 13] (fun v0 v13 wr => ∃ k : Nat, k ≤ n ∧ v13 = .int .i64 (k : Int) ∧ v0 = .string ⟨(textsL ss k).toArray⟩ ∧ Below w.heap.size w wr) (fun _ v13 _ => n - (intOf v13).toNat)
  case atStart => exact ⟨0, by omega, rfl, rfl, HB1.out⟩
  case round =>
    clear HB1
    obtain ⟨k, hk, rfl, rfl, hb⟩ := hrel
    have HB := Lib.hid hb
    have hsz := hb.size
    clear hb
    by_cases hlt : k < n
    · obtain ⟨b, off, rfl, hSb, hcell⟩ := HC.out (by omega)
      have hbw := HS.out b hSb
      have hkl : k < ss.length := by have := HN.out; omega
      have hlen := HLL.out k (by have := HN.out; omega)
      have hlz : (⟨(textsL ss k).toArray⟩ : ByteArray).size < 4000000000 := by
        show (textsL ss k).toArray.size < _
        rw [List.size_toArray]
        omega
      have cx := (HB.out.cell (p := ⟨b, off + k, none⟩) hbw).trans (hcell k hlt)
      have hxs := HSS.out k hkl
      have hnext := textsL_succ hkl
      obtain ⟨x, hx⟩ : ∃ x, ss.getD k ⟨#[]⟩ = x := ⟨_, rfl⟩
      rw [hx] at cx hxs hnext
      have hpt := fun W => rf_PutText ⟨(textsL ss k).toArray⟩ x W hlz (by omega)
      unfold TxtPost at hpt
      rw [bytes_two, ← hnext] at hpt
      obtain ⟨q, hq⟩ : ∃ q : ByteArray, ⟨(textsL ss k).toArray⟩ = q := ⟨_, rfl⟩
      rw [hq] at hpt ⊢
      have HPT := Lib.hid hpt
      have zi : (k : Int) < (n : Int) := by omega
      have z0 : (0 : Int) ≤ (k : Int) := by omega
      clear hcell hkl hnext hx hlen hlz hq hpt
      go_wp2_with fail
      refine (HPT.out _).mono ?_
      rintro e w3 ⟨rfl, hb3⟩
      have HB3 := Lib.hid (HB.out.trans (hb3.mono hsz))
      clear hb3
      go_wp2_with fail
      go_roundw
      case measure => simp [intOf]; omega
      case rel => exact ⟨k + 1, by omega, by go_num, rfl, HB3.out⟩
    · have zi : ¬ (k : Int) < (n : Int) := by omega
      have hkn : k = ss.length := by have := HN.out; omega
      have he : textsB ss = ⟨(textsL ss k).toArray⟩ := by unfold textsB; rw [hkn]
      have HE := Lib.hid he
      clear hkn he
      go_wp2_with fail
      go_ret
      exact ⟨by rw [HE.out]; rfl, HB.out⟩
set_option maxRecDepth 100000 in
set_option maxHeartbeats 2000000 in
theorem c_putListS (v : Value) (ss : List ByteArray) (S : Nat → Prop) (w : World) (hv : TxsAt w S v ss) (hS : ∀ b, S b → b < w.heap.size) (hl : ss.length ≤ 1000) (hs : ∀ k, k < ss.length → (ss.getD k ⟨#[]⟩).size ≤ 1000000) :
    Calls Tryz.prog 86 #[.string ⟨#[]⟩, v, .func (.func 87) #[] #[]] w (TxsE ss w) := by
  obtain ⟨A, n, c, rfl, hn, hnc, hcc⟩ := hv
  obtain ⟨i0, hi, hz0, hz1, hz2⟩ := info_parts infoB
  have hll := fun k hk => textsL_len (M := 1000000) hs k hk
  have hp0 := fun (W : World) => c_PutInt ⟨#[]⟩ (n : Int) W (by omega) (by omega) (by decide)
  unfold PutPost at hp0
  rw [bytes_empty] at hp0
  have hpt := fun (W : World) (s : ByteArray) (h : s.size ≤ 1000000) => c_PutText ⟨#[]⟩ s W (by decide) (by omega)
  unfold TxtPost at hpt
  simp only [bytes_empty] at hpt
  have hcv := fun (W : World) (s : ByteArray) => Lib.run_convert_string_bytes (P := Tryz.prog) W 9 136 5 s Tryz.underlying9 Tryz.underlying136 Tryz.underlying5
  obtain ⟨len, hlen⟩ : ∃ l : List UInt8, putB (n : Int) = l := ⟨_, rfl⟩
  have hle : len.length ≤ 11 := by rw [← hlen]; exact putB_len _
  have hl0 : textsL ss 0 = len := by
    unfold textsL
    rw [List.take_zero, List.flatMap_nil, List.append_nil, ← hn, hlen]
  have HP0 := Lib.hid hp0
  have HPT := Lib.hid hpt
  have HCV := Lib.hid hcv
  have HN := Lib.hid hn
  have HCC := Lib.hid hcc
  have HLEN := Lib.hid hlen
  have HLL := Lib.hid hll
  have HL0 := Lib.hid hl0
  have HSS := Lib.hid hs
  have hn6 : n ≤ 1000 := by omega
  clear hn hcc hs hp0 hcv hlen hll hl0 hl hpt
  go_enter Tryz.func86, Tryz.ntmps86
  go_wp2_with fail
  refine (HP0.out _).mono ?_
  rintro e w1 ⟨rfl, hb1⟩
  rw [HLEN.out]
  have hob := ownB_bytes w1 ⟨len.toArray⟩ 5
  have hbw := below_bytes w1 ⟨len.toArray⟩ 5
  have hcv1 := HCV.out w1 ⟨len.toArray⟩
  have hbl : Below w.heap.size w (Lib.bytesWorld w1 5 ⟨len.toArray⟩) := hb1.trans (hbw.mono hb1.size)
  have hs1 := hb1.size
  have hob1 : OwnB (Lib.bytesWorld w1 5 ⟨len.toArray⟩) w.heap.size (.slice (some ⟨w1.heap.size, 0, none⟩) (⟨len.toArray⟩ : ByteArray).size (grownCap w1 (⟨len.toArray⟩ : ByteArray).size 0 5)) (Lib.byteCells len) := by
    obtain ⟨g, cap, h1, h2, h3⟩ := hob
    exact ⟨g, cap, h1, by omega, h3⟩
  rw [show (⟨len.toArray⟩ : ByteArray).size = len.length from by show len.toArray.size = _; simp] at hob1
  have HOB := Lib.hid hob1
  have HBL := Lib.hid hbl
  clear hob hbw hbl hob1 hb1
  go_wp2_with fail
  clear hcv1
  generalize Lib.bytesWorld w1 5 ⟨len.toArray⟩ = w2 at *
  go_loopw [8, 18] (fun v t wr => ∃ k : Nat, k ≤ n ∧ t = .int .i64 (k : Int) ∧ OwnB wr w.heap.size v (Lib.byteCells (textsL ss k)) ∧ Below w.heap.size w wr) (fun _ t _ => n - (intOf t).toNat)
  case atStart => exact ⟨0, by omega, rfl, by rw [HL0.out]; exact HOB.out, HBL.out⟩
  case round =>
    clear HOB HBL
    obtain ⟨k, hk, rfl, hown, hbl⟩ := hrel
    have hml := HLL.out k (by have := HN.out; omega)
    obtain ⟨m, hm⟩ : ∃ m, (textsL ss k).length = m := ⟨_, rfl⟩
    obtain ⟨g, cap, rfl⟩ := hown.form (m := m) (by rw [cells_len, hm])
    rw [hm] at hml
    have HM := Lib.hid hm
    have HO := Lib.hid hown
    have HB := Lib.hid hbl
    clear hown hbl hm
    by_cases hlt : k < n
    · obtain ⟨b0, off, rfl, hlt0, hcell⟩ := HCC.out (by omega)
      have cx := (HB.out.cell (p := ⟨b0, off + k, none⟩) (hS _ hlt0)).trans (hcell k hlt)
      have hkl : k < ss.length := by have := HN.out; omega
      have hxs := HSS.out k hkl
      have hnext := textsL_succ hkl
      obtain ⟨x, hx⟩ : ∃ x, ss.getD k ⟨#[]⟩ = x := ⟨_, rfl⟩
      rw [hx] at cx hxs hnext
      have hxl := textL_len x
      have hz : (⟨(textL x).toArray⟩ : ByteArray).size ≤ 1000011 := by show (textL x).toArray.size ≤ _; rw [List.size_toArray]; omega
      have HNX := Lib.hid hnext
      have HZ := Lib.hid hz
      have qk : (k : Int) < (n : Int) := by omega
      have qk0 : (0 : Int) ≤ (k : Int) := by omega
      clear hx hcell hnext hxl hz hkl
      go_wp2_with fail
      refine (HPT.out _ x hxs).mono ?_
      rintro e w3 ⟨rfl, hb3⟩
      have hown3 := HO.out.below hb3
      have HB3 := Lib.hid (HB.out.trans (hb3.mono HB.out.size))
      clear hb3 HO
      go_wp2_with (at_builtin; refine wpList_append_bs rfl _ _ 136 9 rfl w.heap.size 5 i0 Tryz.underlying136 Tryz.underlying9 hi hz0 hz1 hz2 _ _ rfl hown3 ⟨(textL x).toArray⟩ rfl ?c2 ?c3 ?_)
      case c2 => rw [cells_len, HM.out]; have := HZ.out; omega
      case c3 => exact HB3.out.size
      intro v4 w4 hown4 hb4
      rw [strCells_list, ← byteCells_app, ← HNX.out] at hown4
      have HO4 := Lib.hid hown4
      have HB4 := Lib.hid (HB3.out.trans hb4)
      clear hown3 hown4 hb4 HB3 HB
      go_wp2_with fail
      go_roundw
      case measure => simp [intOf]; omega
      case rel => exact ⟨k + 1, by omega, by go_num, HO4.out, HB4.out⟩
    · have hkn : k = ss.length := by have := HN.out; omega
      have qk : ¬ (k : Int) < (n : Int) := by omega
      have he : textsB ss = ⟨(textsL ss k).toArray⟩ := by unfold textsB; rw [hkn]
      have HE := Lib.hid he
      have hcv := own_string wr _ _ _ _ _ HO.out HM.out
      have hsz : (⟨(textsL ss k).toArray⟩ : ByteArray).size ≤ 2000000000 := by show (textsL ss k).toArray.size ≤ _; rw [List.size_toArray, HM.out]; omega
      have h00 : (⟨#[]⟩ : ByteArray).size ≤ 0 := Nat.le_refl _
      clear HM he hkn
      go_wp2_with fail
      go_ret
      exact ⟨by rw [HE.out]; exact congrArg (fun x => Ending.returned (.string x)) (bytes_empty _), HB.out⟩
theorem c_PutTexts (v : Value) (ss : List ByteArray) (S : Nat → Prop) (w : World) (hv : TxsAt w S v ss) (hS : ∀ b, S b → b < w.heap.size) (hl : ss.length ≤ 1000) (hs : ∀ k, k < ss.length → (ss.getD k ⟨#[]⟩).size ≤ 1000000) :
    Calls Tryz.prog 50 #[.string ⟨#[]⟩, v] w (TxsE ss w) := by
  have h := c_putListS v ss S w hv hS hl hs
  have H := Lib.hid h
  clear h hv hs
  go_enter Tryz.func50, Tryz.ntmps50
  go_wp2_with fail
  refine H.out.mono ?_
  rintro e w1 ⟨rfl, hb1⟩
  go_wp2_with fail
  go_ret
  exact ⟨rfl, hb1⟩
end Go.Proofs.YthfmmememdlekaaGreatDoor
