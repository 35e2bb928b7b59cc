/- The reference's signatures. -/
import Derived.Test.YtmneokkdkgflkaaDoorRefEl
set_option linter.unusedVariables false
set_option linter.unusedSimpArgs false
namespace Go.Proofs.YtmneokkdkgflkaaDoor
open Go.RowKit Num

theorem app_str (b : ByteArray) (l : List UInt8) : (⟨(b.data.toList ++ l).toArray⟩ : ByteArray) = b ++ ⟨l.toArray⟩ := by
  apply ByteArray.ext
  rw [ByteArray.data_append]
  simp
set_option maxRecDepth 100000 in
set_option maxHeartbeats 1000000 in
theorem rf_PutInt (b : ByteArray) (n : Int) (w : World) (h1 : 0 ≤ n) (h2 : n < 4611686018427387904) (hb : b.size < 4294967296) :
    Calls Tryd.prog 87 #[.string b, .int .i64 n] w (PutPost b n w) := by
  have hu := zig_lt n (by omega) (by omega)
  obtain ⟨i0, hi, hz0, hz1, hz2⟩ := info_parts infoB
  have hx : n * 2 = ((zig n : Nat) : Int) := by unfold zig; rw [if_neg (by omega)]; omega
  have hw1 : IntKind.u64.wrap (n * 2) = n * 2 := by show (n * 2) % 18446744073709551616 = _; omega
  have hw2 : IntKind.u64.wrap n = n := by show n % 18446744073709551616 = _; omega
  have hn0 : decide (n < 0) = false := decide_eq_false (by omega)
  have ep : ∀ k, k ≤ 9 → (∀ j, j < k → 128 ≤ zig n / 128 ^ j) → zig n / 128 ^ k < 128 → putB n = vk (zig n) k ++ [UInt8.ofNat (zig n / 128 ^ k)] := by
    intro k hk h3 h4
    have := rdN_of 10 k (zig n) (by omega) h3 h4
    unfold putB; rw [this]
  have EP := Lib.hid ep
  have HX := Lib.hid hx
  clear ep hx
  have hbw := below_bytes w b 5
  have hob := ownB_bytes w b 5
  have hcv := fun (W : World) => Lib.run_convert_string_bytes (P := Tryd.prog) W 9 90 5 b Tryd.underlying9 Tryd.underlying90 Tryd.underlying5
  have HBW := Lib.hid hbw
  have HOB := Lib.hid hob
  have hbl : b.data.toList.length = b.size := by simp
  have HBL := Lib.hid hbl
  clear hbw hob hbl
  go_enter Tryd.func87, Tryd.ntmps87
  go_wp2_with fail
  rw [HX.out]
  clear hw1 hw2 HX hn0
  generalize zig n = u at *
  clear hcv
  generalize (Lib.bytesWorld w 5 b) = w0 at *
  go_loopw [5, 6] (fun x v wr => ∃ k : Nat, x = .int .u64 ((u / 128 ^ k : Nat) : Int) ∧ OwnB wr w.heap.size v (Lib.byteCells (b.data.toList ++ vk u k)) ∧ Below w.heap.size w wr ∧ (∀ j, j < k → 128 ≤ u / 128 ^ j)) (fun x _ _ => (intOf x).toNat)
  case atStart => exact ⟨0, by simp, by simpa [vk] using HOB.out, HBW.out, fun j hj => by omega⟩
  case round =>
    clear HOB HBW
    obtain ⟨k, rfl, hown, hbl, hj⟩ := hrel
    have hk9 := u_small u k hu hj
    have hsz := hbl.size
    have hvl := vk_len u k
    obtain ⟨g, cap, rfl⟩ := hown.form (m := b.size + k) (by rw [cells_len, List.length_append, HBL.out, hvl])
    have HJ := Lib.hid hj
    have HB := Lib.hid hbl
    clear hj hbl
    obtain ⟨x, hx⟩ : ∃ x, u / 128 ^ k = x := ⟨_, rfl⟩
    have hxu : x ≤ u := by rw [← hx]; exact Nat.div_le_self _ _
    have hnext := div_pow_succ u k
    rw [hx] at hnext ⊢
    have HN := Lib.hid hnext
    have HXX := Lib.hid hx
    clear hnext hx
    have hor := or_more x
    by_cases h128 : 128 ≤ x
    · go_wp2_with (at_builtin; refine wpList_append_b rfl _ _ 90 rfl w.heap.size 5 i0 (.int .u8 0) Tryd.underlying90 hi hz0 hz1 hz2 rfl _ _ rfl (hown.alloc _) ⟨wr.heap.size, 0, none⟩ 1 (.int .u8 ((x % 128 + 128 : Nat) : Int)) rfl ?c1 rfl ?c2 ?c3 ?_)
      case c1 => simp
      case c2 => rw [cells_len, List.length_append, HBL.out, hvl]; omega
      case c3 => simp; omega
      intro v1 w3 hown3 hb3
      have HO3 : Hid (OwnB w3 w.heap.size v1 (Lib.byteCells (b.data.toList ++ vk u (k + 1)))) := Lib.hid (by
        rw [show vk u (k + 1) = vk u k ++ [UInt8.ofNat (u / 128 ^ k % 128 + 128)] from rfl, ← List.append_assoc, cells_snoc _ _ (by omega), HXX.out]; exact hown3)
      have HB3 := Lib.hid ((HB.out.alloc (by omega) _).trans hb3)
      clear hown3 hb3 hown HB hor
      go_wp2_with fail
      go_roundw
      case measure => simp [intOf]; omega
      case rel => exact ⟨k + 1, by rw [HN.out]; go_num, HO3.out, HB3.out, fun j hj => by
          rcases Nat.lt_or_ge j k with h | h
          · exact HJ.out j h
          · rw [show j = k by omega, HXX.out]; exact h128⟩
    · have e1 := EP.out k hk9 HJ.out (by rw [HXX.out]; omega)
      rw [HXX.out] at e1
      have E1 := Lib.hid e1
      clear e1
      have hx256 : ((x : Nat) : Int) % 256 = (x : Int) := by omega
      go_wp2_with (at_builtin; refine wpList_append_b rfl _ _ 90 rfl w.heap.size 5 i0 (.int .u8 0) Tryd.underlying90 hi hz0 hz1 hz2 rfl _ _ rfl (hown.alloc _) ⟨wr.heap.size, 0, none⟩ 1 (.int .u8 ((x : Nat) : Int)) rfl ?c1 rfl ?c2 ?c3 ?_)
      case c1 => simp
      case c2 => rw [cells_len, List.length_append, HBL.out, hvl]; omega
      case c3 => simp; omega
      intro v1 w3 hown3 hb3
      have hown4 : OwnB w3 w.heap.size v1 (Lib.byteCells (b.data.toList ++ putB n)) := by
        rw [E1.out, ← List.append_assoc, cells_snoc _ _ (by omega)]; exact hown3
      have hl : (b.data.toList ++ putB n).length = b.size + k + 1 := by rw [E1.out, List.length_append, List.length_append, HBL.out, hvl]; rfl
      obtain ⟨g1, cap1, rfl⟩ := hown4.form (m := b.size + k + 1) (by rw [cells_len, hl])
      have hcv := own_string w3 _ _ _ _ _ hown4 hl
      rw [app_str] at hcv
      have HB3 := Lib.hid ((HB.out.alloc (by omega) _).trans hb3)
      clear hown3 hb3 hown HB hor hown4
      go_wp2_with fail
      go_ret
      exact ⟨rfl, HB3.out⟩
theorem r_Public (p : Nat) (k : Int) (w : World) (h0 : 1 ≤ p) (h2 : p ≤ 1073741823) :
    Calls Tryd.prog 37 #[.int .i64 (p : Int), .int .i64 k] w (IPost (pw (2 * p + 1) 4 (k % p).toNat : Int) w) := by
  have hp := r_PowerG p 4 k w h0 h2 (by omega)
  have HP := Lib.hid hp
  clear hp
  go_enter Tryd.func37, Tryd.ntmps37
  go_wp2_with fail
  refine (HP.out).mono ?_
  rintro e w1 ⟨rfl, rfl⟩
  go_wp2_with fail
  go_ret
  exact ⟨rfl, rfl⟩
theorem r_PublicN (p k : Nat) (w : World) (h0 : 1 ≤ p) (h2 : p ≤ 1073741823) (hk : k < p) :
    Calls Tryd.prog 37 #[.int .i64 (p : Int), .int .i64 (k : Int)] w (IPost (pw (2 * p + 1) 4 k : Int) w) := by
  have := r_Public p k w h0 h2
  rwa [show ((k : Int) % (p : Int)).toNat = k by rw [Int.emod_eq_of_lt (by omega) (by omega)]; rfl] at this
set_option maxHeartbeats 1000000 in
theorem r_challenge (p : Nat) (r pub : Int) (text : ByteArray) (w : World) (hp : 2 ≤ p) (hp2 : p ≤ 2147483648) (hr0 : 0 ≤ r) (hr1 : r < 2147483648) (hq0 : 0 ≤ pub) (hq1 : pub < 2147483648) (ht : text.size < 2147483648) :
    Calls Tryd.prog 67 #[.int .i64 (p : Int), .int .i64 r, .int .i64 pub, .string text] w (IntBelow (chal p r pub text) w) := by
  have l1 := putB_len r
  have l2 := putB_len pub
  have z1 : ((⟨#[]⟩ : ByteArray) ++ ⟨(putB r).toArray⟩).size = (putB r).length := by rw [ByteArray.size_append]; show 0 + (putB r).toArray.size = _; simp
  have z2 : (((⟨#[]⟩ : ByteArray) ++ ⟨(putB r).toArray⟩) ++ ⟨(putB pub).toArray⟩).size = (putB r).length + (putB pub).length := by rw [ByteArray.size_append, z1]; show _ + (putB pub).toArray.size = _; simp
  have z3 : (chalS r pub text).size = (putB r).length + (putB pub).length + text.size := by unfold chalS; rw [ByteArray.size_append, z2]
  have Z2 := Lib.hid z2
  have Z3 := Lib.hid z3
  have Z1 := Lib.hid z1
  have ec : chal p r pub text = numB (shaOf (chalS r pub text)) 7 % ((p : Int) - 1) + 1 := by unfold chal; rw [show max ((p : Int) - 1) 1 = (p : Int) - 1 by omega]
  have EC := Lib.hid ec
  clear z1 z2 z3 ec
  go_enter Tryd.func67, Tryd.ntmps67
  go_wp2_with fail
  refine (rf_PutInt _ r _ (by omega) (by omega) (by decide)).mono ?_
  rintro e w1 ⟨rfl, hb1⟩
  have s1 := hb1.size
  go_wp2_with fail
  refine (rf_PutInt _ pub _ (by omega) (by omega) (by rw [Z1.out]; omega)).mono ?_
  rintro e w2 ⟨rfl, hb2⟩
  have s2 := hb2.size
  have zi : ((((⟨#[]⟩ : ByteArray) ++ ⟨(putB r).toArray⟩) ++ ⟨(putB pub).toArray⟩).size) ≤ 22 := by rw [Z2.out]; omega
  go_wp2_with fail
  refine (rf_Element p (chalS r pub text) _ hp hp2 (by rw [Z3.out]; omega)).mono ?_
  rintro e w3 ⟨rfl, hb3⟩
  go_wp2_with fail
  go_ret
  exact ⟨(by rw [EC.out]; rfl), (hb1.trans (hb2.mono s1)).trans (hb3.mono (by omega))⟩

set_option maxHeartbeats 1000000 in
set_option maxRecDepth 100000 in
theorem r_Sign (p key nonce : Nat) (text : ByteArray) (w : World) (h : SafeI (p : Int)) (k1 : 1 ≤ key) (k2 : key < p) (n1 : 1 ≤ nonce) (n2 : nonce < p) (ht : text.size < 2147483648) :
    Calls Tryd.prog 36 #[.int .i64 (p : Int), .int .i64 (key : Int), .int .i64 (nonce : Int), .string text] w (SignPost p key nonce text w) := by
  have h3 := h.sprm.1.2.2.1
  have h4 := h.sprm.1.2.2.2
  rw [Int.toNat_natCast] at h3 h4
  obtain ⟨e1, e2⟩ := mod_yes h
  have hm := fun W => r_ModulusG (p : Int) W
  unfold ModPost at hm
  rw [e1, e2] at hm
  have HM := Lib.hid hm
  have pr := pw_lt (m := 2 * p + 1) (by omega) 4 nonce
  have pk := pw_lt (m := 2 * p + 1) (by omega) 4 key
  have cb := chal_bd p (pw (2 * p + 1) 4 nonce) (pw (2 * p + 1) 4 key) text (by omega)
  have es : sigS p key nonce text = (nonce + key * (chal p (pw (2 * p + 1) 4 nonce) (pw (2 * p + 1) 4 key) text).toNat) % p := by unfold sigS; rw [Nat.add_mod_mod]
  have ES := Lib.hid es
  clear es h e1 e2 hm
  go_enter Tryd.func36, Tryd.ntmps36
  go_wp2_with fail
  refine (HM.out _).mono ?_
  rintro e w1 ⟨rfl, rfl⟩
  go_wp2_with fail
  refine (r_PublicN p nonce _ (by omega) (by omega) n2).mono ?_
  rintro e w1 ⟨rfl, rfl⟩
  go_wp2_with fail
  refine (r_PublicN p key _ (by omega) (by omega) k2).mono ?_
  rintro e w2 ⟨rfl, rfl⟩
  go_wp2_with fail
  refine (r_challenge p _ _ text _ (by omega) (by omega) (by omega) (by omega) (by omega) (by omega) ht).mono ?_
  rintro e w3 ⟨rfl, hb3⟩
  have s3 := hb3.size
  have c0 : w3.cell? ⟨w.heap.size, 0, none⟩ = some (.int .i64 0) := by
    rw [hb3.cell (by simp), World.cell?_alloc_new]; rfl
  have c1 : w3.cell? ⟨w.heap.size, 1, none⟩ = some (.int .i64 0) := by
    rw [hb3.cell (by simp), World.cell?_alloc_new]; rfl
  have f0 : w3.frozen? ⟨w.heap.size, 0, none⟩ = false := by
    rw [hb3.frozen (by simp)]; exact World.frozen?_alloc_new _ _ _ _
  have f1 : w3.frozen? ⟨w.heap.size, 1, none⟩ = false := by
    rw [hb3.frozen (by simp)]; exact World.frozen?_alloc_new _ _ _ _
  have hbw : Below w.heap.size w w3 := ((Below.refl _ _).alloc (Nat.le_refl _) _).trans (hb3.mono (by simp))
  have HBW := Lib.hid hbw
  clear hbw hb3
  obtain ⟨c, hc⟩ : ∃ c, chal p (pw (2 * p + 1) 4 nonce) (pw (2 * p + 1) 4 key) text = c := ⟨_, rfl⟩
  have ES2 := ES
  rw [hc] at cb ES2 ⊢
  clear ES hc
  obtain ⟨c', rfl⟩ := Int.eq_ofNat_of_zero_le (show 0 ≤ c by omega)
  have hkc : key * c' ≤ 1073741823 * 1073741823 := Nat.mul_le_mul (by omega) (by omega)
  have hkc2 : (key : Int) * (c' : Int) ≤ 1152921502459363329 := by have : ((key * c' : Nat) : Int) ≤ 1152921502459363329 := by omega
                                                                   rwa [Int.natCast_mul] at this
  have hkc0 : (0 : Int) ≤ (key : Int) * (c' : Int) := Int.mul_nonneg (by omega) (by omega)
  have hw1 : IntKind.i64.wrap ((key : Int) * (c' : Int)) = (key : Int) * (c' : Int) := IntWalk.i64_in _ ⟨by omega, by omega⟩
  have hp0 : (p : Int) ≠ 0 := by omega
  go_wp2_with fail
  have es3 : ((sigS p key nonce text : Nat) : Int) = ((nonce : Int) + (key : Int) * (c' : Int)) % (p : Int) := by
    rw [ES2.out, Int.toNat_natCast, Int.natCast_emod, Int.natCast_add, Int.natCast_mul]
  refine bodyPost_ret (v := .tuple #[.agg #[.int .i64 (pw (2 * p + 1) 4 nonce : Int), .int .i64 (((nonce : Int) + (key : Int) * (c' : Int)) % (p : Int))], .int .i64 0]) (by simp [results, Tryd.results36, go_sem, c0, c1]) rfl ⟨?_, ?_⟩
  · rw [es3]
  · exact (HBW.out.setCell (p := ⟨w.heap.size, 0, none⟩) (Nat.le_refl _) _).setCell (p := ⟨w.heap.size, 1, none⟩) (Nat.le_refl _) _
end Go.Proofs.YtmneokkdkgflkaaDoor
