/- Lanes of padded messages, the first words of their sums, and that two rows of lanes differ everywhere. Groups of marks: what the kernel's run says of the sums. The marks of the plays' shares are those of the kernel's run. The three salts that the dice can give, byte by byte, and their elements. -/
import Derived.Test.YtjfphobfikadlaaGreatDoorW27
import Derived.Test.YtjfphobfikadlaaGreatDoorW12
import Derived.Test.YtjfphobfikadlaaGreatDoorW16
import Derived.Test.YtjfphobfikadlaaGreatDoorW23
set_option linter.unusedVariables false
set_option linter.unusedSimpArgs false
namespace Go.Proofs.YtjfphobfikadlaaGreatDoor.Lane
open Go.RowKit

def ksL : List Nat := [1116352408, 1899447441, 3049323471, 3921009573, 961987163, 1508970993, 2453635748, 2870763221, 3624381080, 310598401, 607225278, 1426881987, 1925078388, 2162078206, 2614888103, 3248222580, 3835390401, 4022224774, 264347078, 604807628, 770255983, 1249150122, 1555081692, 1996064986, 2554220882, 2821834349, 2952996808, 3210313671, 3336571891, 3584528711, 113926993, 338241895, 666307205, 773529912, 1294757372, 1396182291, 1695183700, 1986661051, 2177026350, 2456956037, 2730485921, 2820302411, 3259730800, 3345764771, 3516065817, 3600352804, 4094571909, 275423344, 430227734, 506948616, 659060556, 883997877, 958139571, 1322822218, 1537002063, 1747873779, 1955562222, 2024104815, 2227730452, 2361852424, 2428436474, 2756734187, 3204031479, 3329325298]
theorem ksL_eq : ksL = shaK.map Int.toNat := by decide
theorem ksL_get (j : Nat) (h : j < 64) : ksL.getD j 0 = toN kOf j := by
  rw [ksL_eq]
  unfold toN kOf
  have hl : shaK.length = 64 := by decide
  rw [List.getD_eq_getElem?_getD, List.getD_eq_getElem?_getD, List.getElem?_map, List.getElem?_eq_getElem (by omega)]
  rfl
theorem wd_of_list (l : List Int) (h : (l.all fun x => decide (0 ≤ x ∧ x < 4294967296)) = true) : Wd fun i => l.getD i 0 := by
  intro i
  show 0 ≤ l.getD i 0 ∧ l.getD i 0 < 4294967296
  rw [List.getD_eq_getElem?_getD]
  by_cases hi : i < l.length
  · rw [List.getElem?_eq_getElem hi]
    have := List.all_eq_true.1 h _ (List.getElem_mem hi)
    simpa using this
  · rw [List.getElem?_eq_none (by omega)]
    decide
theorem kOf_wd : Wd kOf := wd_of_list shaK (by decide)
theorem bOf_wd : Wd bOf := wd_of_list shaB (by decide)

/-- A word of each message, in lanes. -/
noncomputable def pkL (s : Nat) (l : List Nat) : Nat := List.rec 0 (fun m _ ih => Nat.add (Nat.land (Nat.shiftRight m s) 4294967295) (Nat.mul 18446744073709551616 ih)) l
theorem pkL_eq (s : Nat) : ∀ l : List Nat, pkL s l = pk l.length fun i => Nat.land (Nat.shiftRight (l.getD i 0) s) msk
  | [] => rfl
  | m :: l => by
    show Nat.add _ (Nat.mul _ (pkL s l)) = _ + _ * pk l.length _
    rw [pkL_eq s l]
    rfl
theorem pkL_pw (s : Nat) (l : List Nat) : PW l.length (pkL s l) fun i => Nat.land (Nat.shiftRight (l.getD i 0) s) msk := ⟨pkL_eq s l, fun i _ => and_lt _⟩
/-- The blocks of the lanes, the highest first. -/
noncomputable def shaM {α : Type} (m u : Nat) (l : List Nat) (r : Nat) : Nat → Nat → Nat → Nat → Nat → Nat → Nat → Nat → (Nat → Nat → Nat → Nat → Nat → Nat → Nat → Nat → α) → α :=
  Nat.rec (fun a b c d e f g h K => K a b c d e f g h) (fun r ih a b c d e f g h K => fr (Nat.mul 512 r) fun s => fr (pkL (Nat.add s 480) l) fun w0 => fr (pkL (Nat.add s 448) l) fun w1 => fr (pkL (Nat.add s 416) l) fun w2 => fr (pkL (Nat.add s 384) l) fun w3 => fr (pkL (Nat.add s 352) l) fun w4 => fr (pkL (Nat.add s 320) l) fun w5 => fr (pkL (Nat.add s 288) l) fun w6 => fr (pkL (Nat.add s 256) l) fun w7 => fr (pkL (Nat.add s 224) l) fun w8 => fr (pkL (Nat.add s 192) l) fun w9 => fr (pkL (Nat.add s 160) l) fun w10 => fr (pkL (Nat.add s 128) l) fun w11 => fr (pkL (Nat.add s 96) l) fun w12 => fr (pkL (Nat.add s 64) l) fun w13 => fr (pkL (Nat.add s 32) l) fun w14 => fr (pkL (Nat.add s 0) l) fun w15 =>
    blkM m u ksL a b c d e f g h w0 w1 w2 w3 w4 w5 w6 w7 w8 w9 w10 w11 w12 w13 w14 w15 fun a' b' c' d' e' f' g' h' => ih a' b' c' d' e' f' g' h' K) r


theorem u32_join (hi lo : Nat) (i : Nat) (h1 : hi % 2 ^ i = 0) (h2 : hi < 4294967296) (h3 : lo < 2 ^ i) (h4 : lo < 4294967296) : bits .or .u32 (hi : Int) (lo : Int) = ((hi + lo : Nat) : Int) := by
  have := bits_join .u32 32 (by decide) wraps_u32 i (hi : Int) (lo : Int) (Int.natCast_nonneg _) (by exact_mod_cast h1) (by exact_mod_cast h2) (Int.natCast_nonneg _) (by exact_mod_cast h3) (by exact_mod_cast h4)
  rw [this]; simp
/-- Four bytes as a number. -/
def w4 (a b c d : Nat) : Nat := a * 16777216 + b * 65536 + c * 256 + d
theorem word4_nat (a b c d : Nat) (ha : a < 256) (hb : b < 256) (hc : c < 256) (hd : d < 256) : word4 (a : Int) (b : Int) (c : Int) (d : Int) = ((w4 a b c d : Nat) : Int) := by
  unfold word4 w4
  rw [show (a : Int) * 16777216 = ((a * 16777216 : Nat) : Int) by simp, show (b : Int) * 65536 = ((b * 65536 : Nat) : Int) by simp, show (c : Int) * 256 = ((c * 256 : Nat) : Int) by simp]
  rw [u32_join _ _ 24 (by omega) (by omega) (by omega) (by omega), u32_join _ _ 16 (by omega) (by omega) (by omega) (by omega), u32_join _ _ 8 (by omega) (by omega) (by omega) (by omega)]
theorem asm_ (A w Z d c : Nat) : A * (c * Z) + (w * Z + d) = (A * c + w) * Z + d := by rw [Nat.add_mul, Nat.mul_assoc, Nat.add_assoc]
theorem ones_ (x d c : Nat) (hc : c = d + 1) : (1 + c * x) * d + 1 = (x * d + 1) * c := by
  have h1 : (1 + c * x) * d = d + x * d * c := by rw [Nat.add_mul, Nat.one_mul, Nat.mul_assoc, Nat.mul_comm c]
  have h2 : (x * d + 1) * c = x * d * c + c := by rw [Nat.add_mul, Nat.one_mul]
  rw [h1, h2]
  generalize x * d * c = y
  omega
/-- Four bytes of a number. -/
theorem hn_word (L : List UInt8) (j : Nat) (h : j + 4 ≤ L.length) : Nat.land (Nat.shiftRight (hn L) (8 * (L.length - 4 - j))) msk = w4 (L.getD j 0).toNat (L.getD (j + 1) 0).toNat (L.getD (j + 2) 0).toNat (L.getD (j + 3) 0).toNat := by
  have g : ∀ i, i < L.length → L.getD i 0 = L[i]! := fun i hi => by simp [List.getD_eq_getElem?_getD, hi]
  have e : L = L.take j ++ ([L.getD j 0, L.getD (j + 1) 0, L.getD (j + 2) 0, L.getD (j + 3) 0] ++ L.drop (j + 4)) := by
    have h0 : L = L.take j ++ L.drop j := (List.take_append_drop j L).symm
    have h1 : L.drop j = L.getD j 0 :: L.drop (j + 1) := by rw [List.drop_eq_getElem_cons (by omega)]; simp [List.getD_eq_getElem?_getD, show j < L.length by omega]
    have h2 : L.drop (j + 1) = L.getD (j + 1) 0 :: L.drop (j + 2) := by rw [List.drop_eq_getElem_cons (by omega)]; simp [List.getD_eq_getElem?_getD, show j + 1 < L.length by omega]
    have h3 : L.drop (j + 2) = L.getD (j + 2) 0 :: L.drop (j + 3) := by rw [List.drop_eq_getElem_cons (by omega)]; simp [List.getD_eq_getElem?_getD, show j + 2 < L.length by omega]
    have h4 : L.drop (j + 3) = L.getD (j + 3) 0 :: L.drop (j + 4) := by rw [List.drop_eq_getElem_cons (by omega)]; simp [List.getD_eq_getElem?_getD, show j + 3 < L.length by omega]
    rw [h4] at h3; rw [h3] at h2; rw [h2] at h1; rw [h1] at h0
    exact h0
  have hl : (L.drop (j + 4)).length = L.length - 4 - j := by rw [List.length_drop]; omega
  have he : hn L = (hn (L.take j) * 4294967296 + w4 (L.getD j 0).toNat (L.getD (j + 1) 0).toNat (L.getD (j + 2) 0).toNat (L.getD (j + 3) 0).toNat) * 256 ^ (L.length - 4 - j) + hn (L.drop (j + 4)) := by
    conv => lhs; rw [e]
    rw [hn_app, hn_app, List.length_append, Nat.pow_add, hl]
    have h4 : hn [L.getD j 0, L.getD (j + 1) 0, L.getD (j + 2) 0, L.getD (j + 3) 0] = w4 (L.getD j 0).toNat (L.getD (j + 1) 0).toNat (L.getD (j + 2) 0).toNat (L.getD (j + 3) 0).toNat := by
      unfold w4; simp only [hn, List.foldl_cons, List.foldl_nil]; omega
    rw [h4, show ([L.getD j 0, L.getD (j + 1) 0, L.getD (j + 2) 0, L.getD (j + 3) 0] : List UInt8).length = 4 from rfl, show (256 : Nat) ^ 4 = 4294967296 from by decide]
    generalize 256 ^ (L.length - 4 - j) = Z
    generalize w4 (L.getD j 0).toNat (L.getD (j + 1) 0).toNat (L.getD (j + 2) 0).toNat (L.getD (j + 3) 0).toNat = w
    have hasm := asm_ (hn (L.take j)) w Z (hn (L.drop (j + 4))) 4294967296
    exact hasm
  have b := (L.getD j 0).toNat_lt
  have b1 := (L.getD (j + 1) 0).toNat_lt
  have b2 := (L.getD (j + 2) 0).toNat_lt
  have b3 := (L.getD (j + 3) 0).toNat_lt
  have hlt := hn_lt (L.drop (j + 4))
  rw [hl] at hlt
  have hs : Nat.shiftRight (hn L) (8 * (L.length - 4 - j)) = hn (L.take j) * 4294967296 + w4 (L.getD j 0).toNat (L.getD (j + 1) 0).toNat (L.getD (j + 2) 0).toNat (L.getD (j + 3) 0).toNat := by
    show hn L >>> _ = _
    rw [Nat.shiftRight_eq_div_pow, Nat.pow_mul, show (2 : Nat) ^ 8 = 256 from by decide, he, Nat.mul_comm _ (256 ^ (L.length - 4 - j)), Nat.mul_add_div (Nat.pow_pos (by decide)), Nat.div_eq_of_lt hlt, Nat.add_zero]
  rw [hs]
  have : ∀ x : Nat, Nat.land x msk = x % 4294967296 := fun x => and_msk x
  rw [this]
  unfold w4
  omega
theorem word_of (P : ByteArray) (B b t : Nat) (hP : P.size = 64 * B) (hb : b < B) (ht : t < 16) : toN (wordAt (P.extract (64 * b) (64 * b + 64))) t = Nat.land (Nat.shiftRight (hn P.data.toList) (512 * (B - 1 - b) + (480 - 32 * t))) msk := by
  have hl : P.data.toList.length = 64 * B := hP
  have hw := hn_word P.data.toList (64 * b + 4 * t) (by omega)
  rw [show 8 * (P.data.toList.length - 4 - (64 * b + 4 * t)) = 512 * (B - 1 - b) + (480 - 32 * t) by omega] at hw
  rw [hw]
  have hx : ∀ i, i < 64 → byteAt (P.extract (64 * b) (64 * b + 64)) i = (((P.data.toList.getD (64 * b + i) 0).toNat : Nat) : Int) := fun i hi => by
    rw [byteAt_extract P _ _ i (by omega) (by omega), byteAt_list, List.getD_eq_getElem?_getD]
  unfold toN wordAt
  rw [hx _ (by omega), hx _ (by omega), hx _ (by omega), hx _ (by omega), word4_nat _ _ _ _ (UInt8.toNat_lt _) (UInt8.toNat_lt _) (UInt8.toNat_lt _) (UInt8.toNat_lt _)]
  exact Int.toNat_natCast _
theorem shaSt_wd (P : ByteArray) : ∀ b, Wd (shaSt P b)
  | 0 => bOf_wd
  | b + 1 => by
    intro j
    show 0 ≤ compress kOf (shaSt P b) _ j ∧ compress kOf (shaSt P b) _ j < 4294967296
    unfold compress fin
    split
    · exact mod_bd _
    · exact shaSt_wd P b j
/-- So do the lanes hold the states behind all blocks. -/
theorem shaM_ok {α : Type} (n B : Nat) (P : Nat → ByteArray) (l : List Nat) (hl : l.length = n) (hP : ∀ i, i < n → (P i).size = 64 * B ∧ l.getD i 0 = hn (P i).data.toList) (Q : Nat → Nat → Nat → Nat → Nat → Nat → Nat → Nat → α) : ∀ (r : Nat), r ≤ B →
    ∀ (a b c d e f g h : Nat), PW n a (fun i => toN (shaSt (P i) (B - r)) 0) → PW n b (fun i => toN (shaSt (P i) (B - r)) 1) → PW n c (fun i => toN (shaSt (P i) (B - r)) 2) → PW n d (fun i => toN (shaSt (P i) (B - r)) 3) → PW n e (fun i => toN (shaSt (P i) (B - r)) 4) → PW n f (fun i => toN (shaSt (P i) (B - r)) 5) → PW n g (fun i => toN (shaSt (P i) (B - r)) 6) → PW n h (fun i => toN (shaSt (P i) (B - r)) 7) →
      ∃ X : Nat → Nat, shaM (mk n) (pk n fun _ => 1) l r a b c d e f g h Q = Q (X 0) (X 1) (X 2) (X 3) (X 4) (X 5) (X 6) (X 7) ∧ ∀ j, j < 8 → PW n (X j) (fun i => toN (shaSt (P i) B) j)
  | 0, _, a, b, c, d, e, f, g, h, ha, hb, hc, hd, he, hf, hg, hh => by
    refine ⟨fun j => [a, b, c, d, e, f, g, h].getD j 0, rfl, fun j hj => ?_⟩
    rw [Nat.sub_zero] at *
    have : j = 0 ∨ j = 1 ∨ j = 2 ∨ j = 3 ∨ j = 4 ∨ j = 5 ∨ j = 6 ∨ j = 7 := by omega
    rcases this with rfl | rfl | rfl | rfl | rfl | rfl | rfl | rfl <;> assumption
  | r + 1, hr, a, b, c, d, e, f, g, h, ha, hb, hc, hd, he, hf, hg, hh => by
    have hw : ∀ t, t < 16 → PW n (pkL (512 * r + (480 - 32 * t)) l) (fun i => toN (wordAt ((P i).extract (64 * (B - (r + 1))) (64 * (B - (r + 1)) + 64))) t) := fun t ht => by
      have := pkL_pw (512 * r + (480 - 32 * t)) l
      rw [hl] at this
      refine ⟨this.1.trans (pk_congr n _ _ fun i hi => ?_), fun i hi => ?_⟩
      · rw [word_of (P i) B (B - (r + 1)) t (hP i hi).1 (by omega) ht, (hP i hi).2, show B - 1 - (B - (r + 1)) = r by omega]
      · show toN (wordAt ((P i).extract (64 * (B - (r + 1))) (64 * (B - (r + 1)) + 64))) t < 4294967296
        rw [word_of (P i) B (B - (r + 1)) t (hP i hi).1 (by omega) ht]
        exact and_lt _
    obtain ⟨X, h1, h2⟩ := blk_ok n kOf (fun i => (P i).extract (64 * (B - (r + 1))) (64 * (B - (r + 1)) + 64)) (fun i => shaSt (P i) (B - (r + 1))) kOf_wd (fun i => shaSt_wd _ _) (fun a b c d e f g h => shaM (mk n) (pk n fun _ => 1) l r a b c d e f g h Q) ksL rfl ksL_get
      a b c d e f g h (pkL (512 * r + (480 - 32 * 0)) l) (pkL (512 * r + (480 - 32 * 1)) l) (pkL (512 * r + (480 - 32 * 2)) l) (pkL (512 * r + (480 - 32 * 3)) l) (pkL (512 * r + (480 - 32 * 4)) l) (pkL (512 * r + (480 - 32 * 5)) l) (pkL (512 * r + (480 - 32 * 6)) l) (pkL (512 * r + (480 - 32 * 7)) l) (pkL (512 * r + (480 - 32 * 8)) l) (pkL (512 * r + (480 - 32 * 9)) l) (pkL (512 * r + (480 - 32 * 10)) l) (pkL (512 * r + (480 - 32 * 11)) l) (pkL (512 * r + (480 - 32 * 12)) l) (pkL (512 * r + (480 - 32 * 13)) l) (pkL (512 * r + (480 - 32 * 14)) l) (pkL (512 * r + (480 - 32 * 15)) l) ha hb hc hd he hf hg hh (hw 0 (by decide)) (hw 1 (by decide)) (hw 2 (by decide)) (hw 3 (by decide)) (hw 4 (by decide)) (hw 5 (by decide)) (hw 6 (by decide)) (hw 7 (by decide)) (hw 8 (by decide)) (hw 9 (by decide)) (hw 10 (by decide)) (hw 11 (by decide)) (hw 12 (by decide)) (hw 13 (by decide)) (hw 14 (by decide)) (hw 15 (by decide))
    have h3 : ∀ j, j < 8 → PW n (X j) (fun i => toN (shaSt (P i) (B - r)) j) := fun j hj => by
      have := h2 j hj
      rw [show B - r = B - (r + 1) + 1 by omega]
      exact this
    obtain ⟨Y, h4, h5⟩ := shaM_ok n B P l hl hP Q r (by omega) _ _ _ _ _ _ _ _ (h3 0 (by decide)) (h3 1 (by decide)) (h3 2 (by decide)) (h3 3 (by decide)) (h3 4 (by decide)) (h3 5 (by decide)) (h3 6 (by decide)) (h3 7 (by decide))
    refine ⟨Y, ?_, h5⟩
    rw [← h4, ← h1]
    unfold shaM
    simp only [fr_eq]
    rfl


/-- So many ones. -/
noncomputable def onesM (n : Nat) : Nat := Nat.div (Nat.sub (Nat.pow 2 (Nat.mul 64 n)) 1) 18446744073709551615
theorem onesM_eq (n : Nat) : onesM n = pk n fun _ => 1 := by
  have h : ∀ n, (pk n fun _ => 1) * 18446744073709551615 + 1 = 2 ^ (64 * n) := by
    intro n
    induction n with
    | zero => rfl
    | succ n ih =>
      have e : (pk (n + 1) fun _ => 1) = 1 + 18446744073709551616 * (pk n fun _ => 1) := rfl
      have e2 : 2 ^ (64 * (n + 1)) = 2 ^ (64 * n) * 18446744073709551616 := by rw [show 64 * (n + 1) = 64 * n + 64 by omega, Nat.pow_add, ← two64]
      rw [e, e2, ← ih]
      exact ones_ _ _ _ (by decide)
  have hn := h n
  show (2 ^ (64 * n) - 1) / 18446744073709551615 = _
  rw [← hn]
  generalize (pk n fun _ => 1) = x
  omega
theorem mk_eq (n : Nat) : Nat.mul (pk n fun _ => 1) 4294967295 = mk n := by
  have := pk_mul 4294967295 n fun _ => 1
  exact this.trans (pk_congr n _ _ fun i _ => rfl)
/-- The first words of all lanes. -/
noncomputable def firM {α : Type} (m u : Nat) (l : List Nat) (B : Nat) (K : Nat → α) : α :=
  fr (Nat.mul 1779033703 u) fun h0 => fr (Nat.mul 3144134277 u) fun h1 => fr (Nat.mul 1013904242 u) fun h2 => fr (Nat.mul 2773480762 u) fun h3 => fr (Nat.mul 1359893119 u) fun h4 => fr (Nat.mul 2600822924 u) fun h5 => fr (Nat.mul 528734635 u) fun h6 => fr (Nat.mul 1541459225 u) fun h7 => shaM m u l B h0 h1 h2 h3 h4 h5 h6 h7 fun a _ _ _ _ _ _ _ => K a
theorem firM_ok {α : Type} (n B : Nat) (P : Nat → ByteArray) (l : List Nat) (hl : l.length = n) (hP : ∀ i, i < n → (P i).size = 64 * B ∧ l.getD i 0 = hn (P i).data.toList) (Q : Nat → α) :
    ∃ X, firM (mk n) (pk n fun _ => 1) l B Q = Q X ∧ PW n X (fun i => toN (shaSt (P i) B) 0) := by
  have h0 : ∀ (c j : Nat), c < 4294967296 → c = toN bOf j → PW n (Nat.mul c (pk n fun _ => 1)) (fun i => toN (shaSt (P i) (B - B)) j) := fun c j hc e => (pw_const c hc).ext fun i => by rw [Nat.sub_self, e]; rfl
  obtain ⟨X, h1, h2⟩ := shaM_ok n B P l hl hP (fun a _ _ _ _ _ _ _ => Q a) B (Nat.le_refl _) _ _ _ _ _ _ _ _ (h0 1779033703 0 (by decide) (by decide)) (h0 3144134277 1 (by decide) (by decide)) (h0 1013904242 2 (by decide) (by decide)) (h0 2773480762 3 (by decide) (by decide)) (h0 1359893119 4 (by decide) (by decide)) (h0 2600822924 5 (by decide) (by decide)) (h0 528734635 6 (by decide) (by decide)) (h0 1541459225 7 (by decide) (by decide))
  refine ⟨X 0, ?_, h2 0 (by decide)⟩
  unfold firM
  simp only [fr_eq]
  exact h1
/-- All lanes differ. -/
noncomputable def difM (m u x y : Nat) : Bool := Nat.beq (Nat.land (Nat.shiftRight (Nat.add (Nat.xor x y) m) 32) m) u
theorem difM_ok {n X Y : Nat} {f g : Nat → Nat} (hX : PW n X f) (hY : PW n Y g) (h : difM (mk n) (pk n fun _ => 1) X Y = true) : ∀ i, i < n → f i ≠ g i := by
  have h1 := (((hX.xor hY).add (pw_mk (n := n))).up (by decide : 4294967296 + 4294967296 ≤ 18446744073709551616)).shr 32 (by decide)
  have h2 : pk n (fun i => Nat.land (Nat.shiftRight (Nat.add (Nat.xor (f i) (g i)) msk) 32) msk) = pk n fun _ => 1 := by
    rw [← h1.1]; exact Nat.eq_of_beq_eq_true h
  intro i hi e
  have h3 := pk_lane (fun i hi => Nat.lt_of_lt_of_le (h1.2 i hi) (by decide)) (fun _ _ => by decide) h2 i hi
  rw [e] at h3
  have hx : Nat.xor (g i) (g i) = 0 := Nat.xor_self _
  rw [hx] at h3
  revert h3
  decide
/-- The lanes of one group: the messages of so many seeds. -/
noncomputable def lanes (p h k d B n : Nat) (sec : List Nat) (a cnt : Nat) : List Nat → (List Nat → Bool) → Bool :=
  Nat.rec (fun acc K => K acc) (fun i ih acc K => msg false p h k d B n sec (Nat.add a i) fun m => ih (m :: acc) K) cnt
theorem lanes_ok (p h k d B n : Nat) (sec : List Nat) (a : Nat) (K : List Nat → Bool) (hp0 : 0 < p) (hp : p < 1073741824) (hh : h < 1000) (hn1 : sec.length = n) (hn2 : n < 1000000) (hs : ∀ s0, (mbL p s0 h k d sec).length < 1000000) : ∀ (cnt : Nat) (acc : List Nat), lanes p h k d B n sec a cnt acc K = true →
    (∀ i, i < cnt → FitsB B (mbL p (a + i) h k d sec).length) ∧ K ((List.range cnt).map (fun i => hn (padL (mbL p (a + i) h k d sec) (mbL p (a + i) h k d sec).length)) ++ acc) = true
  | 0, acc, hk => ⟨fun i hi => by omega, hk⟩
  | cnt + 1, acc, hk => by
    change msg false p h k d B n sec (a + cnt) (fun m => lanes p h k d B n sec a cnt (m :: acc) K) = true at hk
    rw [msg_eq _ _ _ _ _ _ _ _ _ _ hp0 hp hh hn1 hn2 (hs _)] at hk
    by_cases hf : FitsB B (mbL p (a + cnt) h k d sec).length
    · rw [if_pos hf] at hk
      obtain ⟨h1, h2⟩ := lanes_ok p h k d B n sec a K hp0 hp hh hn1 hn2 hs cnt _ hk
      refine ⟨fun i hi => ?_, ?_⟩
      · by_cases e : i = cnt
        · rw [e]; exact hf
        · exact h1 i (by omega)
      · rw [List.range_succ, List.map_append, List.append_assoc]
        exact h2
    · rw [if_neg hf] at hk
      cases hk
/-- Two sums are the same only if their first words are. -/
theorem sha_first (s t : ByteArray) (h : shaOf s = shaOf t) : toN (shaSt (padS s) ((padS s).size / 64)) 0 = toN (shaSt (padS t) ((padS t).size / 64)) 0 := by
  unfold shaOf at h
  have key : ∀ (f : Nat → Int), Wd f → f 0 = (((strOfNums (outL f)).data.toList.getD 0 0).toNat : Int) * 16777216 + (((strOfNums (outL f)).data.toList.getD 1 0).toNat : Int) * 65536 + (((strOfNums (outL f)).data.toList.getD 2 0).toNat : Int) * 256 + (((strOfNums (outL f)).data.toList.getD 3 0).toNat : Int) := fun f hf => by
    obtain ⟨h0, h1⟩ := hf 0
    have g : ∀ i, i < 4 → (((strOfNums (outL f)).data.toList.getD i 0).toNat : Int) = f 0 / ((2 ^ (24 - 8 * i) : Nat) : Int) % 256 := fun i hi => by
      have hl : (outL f).length = 32 := by simp [outL]
      have e := outL_get f i (by omega)
      rw [show i / 4 = 0 by omega, show i % 4 = i by omega] at e
      rw [strOfNums_data, List.getD_eq_getElem?_getD, List.getElem?_map]
      rw [List.getD_eq_getElem?_getD] at e
      rw [List.getElem?_eq_getElem (by omega)] at e ⊢
      simp only [Option.map_some, Option.getD_some] at e ⊢
      rw [e]
      have hb : 0 ≤ f 0 / ((2 ^ (24 - 8 * i) : Nat) : Int) % 256 ∧ f 0 / ((2 ^ (24 - 8 * i) : Nat) : Int) % 256 < 256 := ⟨Int.emod_nonneg _ (by decide), Int.emod_lt_of_pos _ (by decide)⟩
      generalize f 0 / ((2 ^ (24 - 8 * i) : Nat) : Int) % 256 = x at *
      rw [UInt8.toNat_ofNat_of_lt' (by show x.toNat < 256; omega)]
      omega
    rw [g 0 (by decide), g 1 (by decide), g 2 (by decide), g 3 (by decide)]
    simp only [show (2 ^ (24 - 8 * 0) : Nat) = 16777216 from by decide, show (2 ^ (24 - 8 * 1) : Nat) = 65536 from by decide, show (2 ^ (24 - 8 * 2) : Nat) = 256 from by decide, show (2 ^ (24 - 8 * 3) : Nat) = 1 from by decide]
    omega
  have e1 := key _ (shaSt_wd (padS s) ((padS s).size / 64))
  have e2 := key _ (shaSt_wd (padS t) ((padS t).size / 64))
  rw [h] at e1
  unfold toN
  rw [e1, e2]
/-- The marks of a group and those of its wrong shares differ. -/
noncomputable def grp (p h k n B0 B1 : Nat) (sec : List Nat) (a cnt : Nat) : Bool :=
  lanes p h k 0 B0 n sec a cnt [] fun l0 => lanes p h k 1 B1 n sec a cnt [] fun l1 => fr (onesM cnt) fun u => fr (Nat.mul u 4294967295) fun m => firM m u l0 B0 fun x => firM m u l1 B1 fun y => difM m u x y
end Go.Proofs.YtjfphobfikadlaaGreatDoor.Lane
namespace Go.Proofs.YtjfphobfikadlaaGreatDoor.Lane
open Go.RowKit

/-- The mark's bytes. -/
def mbB (p s0 h k d : Nat) (sec : List Nat) : ByteArray := ⟨(mbL p s0 h k d sec).toArray⟩
theorem mbB_pad (p s0 h k d B : Nat) (sec : List Nat) (hs : (mbL p s0 h k d sec).length < 1000000) (hf : FitsB B (mbL p s0 h k d sec).length) :
    (padS (mbB p s0 h k d sec)).size = 64 * B ∧ hn (padS (mbB p s0 h k d sec)).data.toList = hn (padL (mbL p s0 h k d sec) (mbL p s0 h k d sec).length) := by
  have e : (padS (mbB p s0 h k d sec)).data.toList = padL (mbL p s0 h k d sec) (mbL p s0 h k d sec).length := by
    show (padL (mbL p s0 h k d sec).toArray.toList (mbL p s0 h k d sec).toArray.size).toArray.toList = _
    simp
  refine ⟨?_, by rw [e]⟩
  have h2 := (pad_hn (mbL p s0 h k d sec) _ B rfl hf hs).2
  have : (padS (mbB p s0 h k d sec)).data.toList.length = 64 * B := by rw [e]; exact h2
  simpa using this
theorem lane_first (p h k d B : Nat) (sec : List Nat) (a cnt : Nat) (hs : ∀ s0, (mbL p s0 h k d sec).length < 1000000) (hf : ∀ i, i < cnt → FitsB B (mbL p (a + i) h k d sec).length) {α : Type} (Q : Nat → α) :
    ∃ X, firM (mk cnt) (pk cnt fun _ => 1) ((List.range cnt).map (fun i => hn (padL (mbL p (a + i) h k d sec) (mbL p (a + i) h k d sec).length)) ++ []) B Q = Q X ∧ PW cnt X (fun i => toN (shaSt (padS (mbB p (a + i) h k d sec)) B) 0) := by
  refine firM_ok cnt B (fun i => padS (mbB p (a + i) h k d sec)) _ (by simp) (fun i hi => ?_) Q
  obtain ⟨h1, h2⟩ := mbB_pad p (a + i) h k d B sec (hs _) (hf i hi)
  refine ⟨h1, ?_⟩
  rw [h2, List.append_nil, List.getD_eq_getElem?_getD, List.getElem?_map, List.getElem?_range hi]
  rfl
theorem first_ne (s t : ByteArray) (B C : Nat) (hs : (padS s).size = 64 * B) (ht : (padS t).size = 64 * C) (h : toN (shaSt (padS s) B) 0 ≠ toN (shaSt (padS t) C) 0) : shaOf s ≠ shaOf t := by
  intro e
  have := sha_first s t e
  rw [hs, ht, Nat.mul_div_cancel_left _ (by decide), Nat.mul_div_cancel_left _ (by decide)] at this
  exact h this
/-- The marks of a group and those of its wrong shares differ. -/
theorem grp_ok (p h k n B0 B1 : Nat) (sec : List Nat) (a cnt : Nat) (hp0 : 0 < p) (hp : p < 1073741824) (hh : h < 1000) (hn1 : sec.length = n) (hn2 : n < 1000000) (hs : ∀ d s0, (mbL p s0 h k d sec).length < 1000000) (hg : grp p h k n B0 B1 sec a cnt = true) :
    ∀ i, i < cnt → shaOf (mbB p (a + i) h k 0 sec) ≠ shaOf (mbB p (a + i) h k 1 sec) := by
  unfold grp at hg
  obtain ⟨f0, hg⟩ := lanes_ok p h k 0 B0 n sec a _ hp0 hp hh hn1 hn2 (hs 0) cnt [] hg
  obtain ⟨f1, hg⟩ := lanes_ok p h k 1 B1 n sec a _ hp0 hp hh hn1 hn2 (hs 1) cnt [] hg
  rw [fr_eq, fr_eq, onesM_eq, mk_eq] at hg
  obtain ⟨X, e1, hX⟩ := lane_first p h k 0 B0 sec a cnt (hs 0) f0 (fun x => firM (mk cnt) (pk cnt fun _ => 1) ((List.range cnt).map (fun i => hn (padL (mbL p (a + i) h k 1 sec) (mbL p (a + i) h k 1 sec).length)) ++ []) B1 fun y => difM (mk cnt) (pk cnt fun _ => 1) x y)
  rw [e1] at hg
  obtain ⟨Y, e2, hY⟩ := lane_first p h k 1 B1 sec a cnt (hs 1) f1 (fun y => difM (mk cnt) (pk cnt fun _ => 1) X y)
  rw [e2] at hg
  intro i hi
  exact first_ne _ _ B0 B1 (mbB_pad p (a + i) h k 0 B0 sec (hs _ _) (f0 i hi)).1 (mbB_pad p (a + i) h k 1 B1 sec (hs _ _) (f1 i hi)).1 (difM_ok hX hY hg i hi)
/-- The marks of a group against one other. -/
noncomputable def grp1 (p h k n B : Nat) (sec : List Nat) (a cnt s1 : Nat) : Bool :=
  lanes p h k 0 B n sec a cnt [] fun l0 => lanes p h k 0 B n sec s1 1 [] fun l1 => fr (onesM cnt) fun u => fr (Nat.mul u 4294967295) fun m => firM m u l0 B fun x => firM (mk 1) (pk 1 fun _ => 1) l1 B fun y => difM m u x (Nat.mul y u)
theorem grp1_ok (p h k n B : Nat) (sec : List Nat) (a cnt s1 : Nat) (hp0 : 0 < p) (hp : p < 1073741824) (hh : h < 1000) (hn1 : sec.length = n) (hn2 : n < 1000000) (hs : ∀ d s0, (mbL p s0 h k d sec).length < 1000000) (hg : grp1 p h k n B sec a cnt s1 = true) :
    ∀ i, i < cnt → shaOf (mbB p (a + i) h k 0 sec) ≠ shaOf (mbB p s1 h k 0 sec) := by
  unfold grp1 at hg
  obtain ⟨f0, hg⟩ := lanes_ok p h k 0 B n sec a _ hp0 hp hh hn1 hn2 (hs 0) cnt [] hg
  obtain ⟨f1, hg⟩ := lanes_ok p h k 0 B n sec s1 _ hp0 hp hh hn1 hn2 (hs 0) 1 [] hg
  rw [fr_eq, fr_eq, onesM_eq, mk_eq] at hg
  obtain ⟨X, e1, hX⟩ := lane_first p h k 0 B sec a cnt (hs 0) f0 (fun x => firM (mk 1) (pk 1 fun _ => 1) ((List.range 1).map (fun i => hn (padL (mbL p (s1 + i) h k 0 sec) (mbL p (s1 + i) h k 0 sec).length)) ++ []) B fun y => difM (mk cnt) (pk cnt fun _ => 1) x (Nat.mul y (pk cnt fun _ => 1)))
  rw [e1] at hg
  obtain ⟨Y, e2, hY⟩ := lane_first p h k 0 B sec s1 1 (hs 0) f1 (fun y => difM (mk cnt) (pk cnt fun _ => 1) X (Nat.mul y (pk cnt fun _ => 1)))
  rw [e2] at hg
  have hy : Y = toN (shaSt (padS (mbB p (s1 + 0) h k 0 sec)) B) 0 := hY.1
  have hy2 := hY.2 0 (by decide)
  have hc := pw_const (n := cnt) Y (by rw [hy]; exact hy2)
  intro i hi
  refine first_ne _ _ B B (mbB_pad p (a + i) h k 0 B sec (hs _ _) (f0 i hi)).1 (mbB_pad p s1 h k 0 B sec (hs _ _) (f1 0 (by decide))).1 ?_
  have := difM_ok hX hc hg i hi
  rwa [hy] at this
end Go.Proofs.YtjfphobfikadlaaGreatDoor.Lane
namespace Go.Proofs.YtjfphobfikadlaaGreatDoor.Lane
open Go.RowKit Num

def toI (l : List Nat) : List Int := l.map Int.ofNat
theorem toI_len (l : List Nat) : (toI l).length = l.length := by simp [toI]
theorem vlN_len (p s0 h k d : Nat) : ∀ (sec : List Nat) (c : Nat), (vlN p s0 h k d sec c).length = sec.length
  | [], _ => rfl
  | s :: t, c => by simp [vlN, vlN_len p s0 h k d t (c + k)]
theorem vlN_get (p s0 h k d : Nat) : ∀ (sec : List Nat) (c i : Nat), i < sec.length → (vlN p s0 h k d sec c).getD i 0 = ((sec.getD i 0 + sN p s0 h k (c + i * k) 1) % p + d) % p
  | [], _, i, hi => absurd hi (Nat.not_lt_zero i)
  | s :: t, c, 0, _ => by simp [vlN]
  | s :: t, c, i + 1, hi => by
    have := vlN_get p s0 h k d t (c + k) i (by simpa using hi)
    rw [show c + (i + 1) * k = c + k + i * k by rw [Nat.add_mul, Nat.one_mul]; omega]
    simpa [vlN] using this
/-- The random numbers of a value. -/
theorem fill_take (p s0 N k c : Nat) (hc : c + k ≤ N) : ((fillL p s0 N).drop c).take k = (List.range k).map fun j => ((fillN p s0 (c + j + 1) : Nat) : Int) := by
  apply List.ext_getElem?
  intro j
  by_cases hj : j < k
  · rw [List.getElem?_take, if_pos hj, List.getElem?_drop, List.getElem?_map, List.getElem?_range hj]
    unfold fillL
    rw [List.getElem?_map, List.getElem?_range (by omega)]
    rfl
  · rw [List.getElem?_take, if_neg hj, List.getElem?_map, List.getElem?_eq_none (by simp; omega)]
    rfl
theorem ev_sN (p s0 h : Nat) : ∀ (k c hp : Nat), ((sN p s0 h k c hp : Nat) : Int) = (hp : Int) * ((h : Int) * ev ((List.range k).map fun j => ((fillN p s0 (c + j + 1) : Nat) : Int)) (h : Int))
  | 0, c, hp => by simp [sN, ev]
  | k + 1, c, hp => by
    have ih := ev_sN p s0 h k (c + 1) (hp * h)
    have e : (List.range (k + 1)).map (fun j => ((fillN p s0 (c + j + 1) : Nat) : Int)) = ((fillN p s0 (c + 1) : Nat) : Int) :: (List.range k).map fun j => ((fillN p s0 (c + 1 + j + 1) : Nat) : Int) := by
      rw [List.range_succ_eq_map, List.map_cons, List.map_map]
      congr 1
      refine List.map_congr_left fun j _ => ?_
      show ((fillN p s0 (c + (j + 1) + 1) : Nat) : Int) = _
      rw [show c + (j + 1) + 1 = c + 1 + j + 1 by omega]
    rw [e]
    show ((fillN p s0 (c + 1) * (hp * h) + sN p s0 h k (c + 1) (hp * h) : Nat) : Int) = (hp : Int) * ((h : Int) * (((fillN p s0 (c + 1) : Nat) : Int) + (h : Int) * ev _ (h : Int)))
    rw [Int.natCast_add, ih]
    simp only [Int.natCast_mul, Int.mul_add]
    generalize ((fillN p s0 (c + 1) : Nat) : Int) = x
    generalize ev _ (h : Int) = y
    simp only [Int.mul_assoc, Int.mul_comm, Int.mul_left_comm]
/-- A share's values are the kernel's. -/
theorem vals_eq (p s0 h k N : Nat) (sec : List Nat) (hp : 1 ≤ p) (hN : sec.length * k ≤ N) :
    (List.range sec.length).map (dealV p k h (toI sec) (fillL p s0 N)) = toI (vlN p s0 h k 0 sec 0) := by
  apply List.ext_getElem
  · simp [toI_len, vlN_len]
  · intro i h1 h2
    have hi : i < sec.length := by simpa using h1
    have hik : i * k + k ≤ N := by
      have : (i + 1) * k ≤ sec.length * k := Nat.mul_le_mul_right k hi
      rw [Nat.add_mul, Nat.one_mul] at this; omega
    simp only [List.getElem_map, List.getElem_range]
    have e1 : (toI (vlN p s0 h k 0 sec 0))[i] = (((vlN p s0 h k 0 sec 0).getD i 0 : Nat) : Int) := by
      have : i < (vlN p s0 h k 0 sec 0).length := by rw [vlN_len]; exact hi
      simp [toI, List.getD_eq_getElem?_getD, this]
    rw [e1, vlN_get _ _ _ _ _ _ _ _ hi]
    unfold dealV
    rw [evH_eq p h hp, fill_take p s0 N k (i * k) hik]
    have es : (toI sec).getD i 0 = ((sec.getD i 0 : Nat) : Int) := by simp [toI, List.getD_eq_getElem?_getD, hi]
    rw [es]
    have hev := ev_sN p s0 h k (0 + i * k) 1
    rw [Nat.zero_add] at hev ⊢
    show (((sec.getD i 0 : Nat) : Int) + (h : Int) * ev _ (h : Int)) % (p : Int) = _
    have e3 : (h : Int) * ev ((List.range k).map fun j => ((fillN p s0 (i * k + j + 1) : Nat) : Int)) (h : Int) = ((sN p s0 h k (i * k) 1 : Nat) : Int) := by rw [hev]; simp
    rw [e3]
    rw [Nat.add_zero, Nat.mod_mod]
    simp
theorem wrong_eq (p s0 h k : Nat) (hp : 1 ≤ p) : ∀ (sec : List Nat) (c : Nat), vlN p s0 h k 1 sec c = (vlN p s0 h k 0 sec c).map fun v => (v + 1) % p
  | [], _ => rfl
  | s :: t, c => by
    simp only [vlN, List.map_cons, wrong_eq p s0 h k hp t (c + k), Nat.add_zero, Nat.mod_mod]
/-- The bytes of a mark. -/
theorem markB_eq (p s0 h k d : Nat) (sec : List Nat) (hp : 1 ≤ p) (hp2 : p ≤ 1073741824) (hh : h < 1000) (hl : sec.length < 1000000) : markB (h : Int) (toI (vlN p s0 h k d sec 0)) = mbB p s0 h k d sec := by
  have hb : ∀ (l : List Nat), (∀ y ∈ l, y < p) → putsL (toI l) = bysN l := by
    intro l
    induction l with
    | nil => intro _; rfl
    | cons y l ih =>
      intro hy
      have h1 := ih fun z hz => hy z (by simp [hz])
      have h2 := hy y (by simp)
      show putB (y : Int) ++ putsL (toI l) = pl 10 (2 * y) ++ bysN l
      rw [h1, putB_eq y (by omega)]
  have hv : ∀ (sec : List Nat) (c : Nat), ∀ y ∈ vlN p s0 h k d sec c, y < p := by
    intro sec
    induction sec with
    | nil => intro c y hy; cases hy
    | cons s t ih =>
      intro c y hy
      simp only [vlN, List.mem_cons] at hy
      rcases hy with rfl | hy
      · exact Nat.mod_lt _ (by omega)
      · exact ih _ y hy
  unfold markB mbB mbL putsB
  rw [toI_len, vlN_len, hb _ (hv sec 0), putB_eq h (by omega), putB_eq sec.length (by omega), List.append_assoc]
theorem mbL_len (p s0 h k d : Nat) (sec : List Nat) (hl : sec.length ≤ 200) : (mbL p s0 h k d sec).length < 1000000 := by
  have h10 : ∀ f u, (pl f u).length ≤ f := by
    intro f
    induction f with
    | zero => intro u; exact Nat.le_refl _
    | succ f ih =>
      intro u
      unfold pl
      split
      · simp
      · have := ih (u / 128); simp; omega
  have hb : ∀ l : List Nat, (bysN l).length ≤ 10 * l.length := by
    intro l
    induction l with
    | nil => exact Nat.le_refl _
    | cons y l ih =>
      show (pl 10 (2 * y) ++ bysN l).length ≤ _
      have := h10 10 (2 * y)
      simp only [List.length_append, List.length_cons]; omega
  have h1 := h10 10 (2 * h)
  have h2 := h10 10 (2 * sec.length)
  have h3 := hb (vlN p s0 h k d sec 0)
  rw [vlN_len] at h3
  unfold mbL
  simp only [List.length_append]
  omega
theorem mark_eq (p s0 h k d : Nat) (sec : List Nat) (hp : 1 ≤ p) (hp2 : p ≤ 1073741824) (hh : h < 1000) (hl : sec.length ≤ 200) : markS (h : Int) (toI (vlN p s0 h k d sec 0)) = shaOf (mbB p s0 h k d sec) := by
  unfold markS
  rw [markB_eq p s0 h k d sec hp hp2 hh (by omega)]
end Go.Proofs.YtjfphobfikadlaaGreatDoor.Lane
set_option maxRecDepth 100000
namespace Go.Proofs.YtjfphobfikadlaaGreatDoor.Lane
open Go.RowKit

def saltS (q : UInt8) : ByteArray := (⟨#[115, 97, 108, 116]⟩ : ByteArray) ++ ⟨#[q]⟩
def saltB (q : UInt8) : ByteArray := (shaOf (saltS q)).extract 0 16
/-- The first half of a sum, out of its first four words. -/
theorem half_of (s : ByteArray) (A : List Nat) (h : ∀ j, j < 4 → toN (shaSt (padS s) ((padS s).size / 64)) j = A.getD j 0) : ((shaOf s).extract 0 16).data.toList = (List.range 16).map fun i => UInt8.ofNat (A.getD (i / 4) 0 / 2 ^ (24 - 8 * (i % 4)) % 256) := by
  rw [ByteArray.data_extract, Array.toList_extract, List.extract_eq_take_drop]
  unfold shaOf
  rw [strOfNums_data]
  simp only [List.drop_zero, Nat.sub_zero]
  unfold outL
  rw [← List.map_take, ← List.map_take, List.take_range, List.map_map]
  refine List.map_congr_left fun i hi => ?_
  have hi' : i < 16 := by have := List.mem_range.1 hi; omega
  have hw := shaSt_wd (padS s) ((padS s).size / 64)
  have e := (hw.eq (i / 4)).1
  rw [h (i / 4) (by omega)] at e
  show UInt8.ofNat (shaSt (padS s) ((padS s).size / 64) (i / 4) / ((2 ^ (24 - 8 * (i % 4)) : Nat) : Int) % 256).toNat = _
  rw [e]
  congr 1
theorem one_lane (P : ByteArray) (hP : P.size = 64) (N a b c d : Nat) (hN : N = hn P.data.toList)
    (h : (shaM (mk 1) (pk 1 fun _ => 1) [N] 1 (Nat.mul 1779033703 (pk 1 fun _ => 1)) (Nat.mul 3144134277 (pk 1 fun _ => 1)) (Nat.mul 1013904242 (pk 1 fun _ => 1)) (Nat.mul 2773480762 (pk 1 fun _ => 1)) (Nat.mul 1359893119 (pk 1 fun _ => 1)) (Nat.mul 2600822924 (pk 1 fun _ => 1)) (Nat.mul 528734635 (pk 1 fun _ => 1)) (Nat.mul 1541459225 (pk 1 fun _ => 1)) fun x y z t _ _ _ _ => Nat.beq x a && Nat.beq y b && Nat.beq z c && Nat.beq t d) = true) :
    toN (shaSt P 1) 0 = a ∧ toN (shaSt P 1) 1 = b ∧ toN (shaSt P 1) 2 = c ∧ toN (shaSt P 1) 3 = d := by
  have h0 : ∀ (c j : Nat), c < 4294967296 → c = toN bOf j → PW 1 (Nat.mul c (pk 1 fun _ => 1)) (fun i => toN (shaSt P (1 - 1)) j) := fun c j hc e => (pw_const c hc).ext fun i => by rw [Nat.sub_self, e]; rfl
  obtain ⟨X, h1, h2⟩ := shaM_ok 1 1 (fun _ => P) [N] rfl (fun i hi => ⟨hP, by rw [show i = 0 by omega]; exact hN⟩) (fun x y z t _ _ _ _ => Nat.beq x a && Nat.beq y b && Nat.beq z c && Nat.beq t d) 1 (Nat.le_refl _) _ _ _ _ _ _ _ _ (h0 1779033703 0 (by decide) (by decide)) (h0 3144134277 1 (by decide) (by decide)) (h0 1013904242 2 (by decide) (by decide)) (h0 2773480762 3 (by decide) (by decide)) (h0 1359893119 4 (by decide) (by decide)) (h0 2600822924 5 (by decide) (by decide)) (h0 528734635 6 (by decide) (by decide)) (h0 1541459225 7 (by decide) (by decide))
  rw [h1] at h
  simp only [Bool.and_eq_true] at h
  obtain ⟨⟨⟨q0, q1⟩, q2⟩, q3⟩ := h
  have g : ∀ j, j < 8 → X j = toN (shaSt P 1) j := fun j hj => by
    have := (h2 j hj).1
    rw [this]
    show _ + 18446744073709551616 * 0 = _
    rfl
  rw [← g 0 (by decide), ← g 1 (by decide), ← g 2 (by decide), ← g 3 (by decide)]
  exact ⟨Nat.eq_of_beq_eq_true q0, Nat.eq_of_beq_eq_true q1, Nat.eq_of_beq_eq_true q2, Nat.eq_of_beq_eq_true q3⟩
theorem salt_list (q : UInt8) : (saltS q).data.toList = [115, 97, 108, 116, q] := rfl
theorem salt_pad (q : UInt8) (N : Nat) (hN : ((hn [115, 97, 108, 116, q] * 256 + 128) * 256 ^ 50 * 18446744073709551616 + 40) = N) : (padS (saltS q)).size = 64 ∧ N = hn (padS (saltS q)).data.toList := by
  have h := pad_hn [115, 97, 108, 116, q] 5 1 rfl (by decide) (by decide)
  have e : (padS (saltS q)).data.toList = padL [115, 97, 108, 116, q] 5 := rfl
  refine ⟨?_, ?_⟩
  · have : (padS (saltS q)).data.toList.length = 64 := by rw [e]; exact h.2
    simpa using this
  · rw [e, h.1, ← hN]

theorem run97 : (shaM (mk 1) (pk 1 fun _ => 1) [6042970322504969575900040937114138244849004259680678238936072771759045268016080427036432986718542105122893168205599228415998176396656319535692475589984296] 1 (Nat.mul 1779033703 (pk 1 fun _ => 1)) (Nat.mul 3144134277 (pk 1 fun _ => 1)) (Nat.mul 1013904242 (pk 1 fun _ => 1)) (Nat.mul 2773480762 (pk 1 fun _ => 1)) (Nat.mul 1359893119 (pk 1 fun _ => 1)) (Nat.mul 2600822924 (pk 1 fun _ => 1)) (Nat.mul 528734635 (pk 1 fun _ => 1)) (Nat.mul 1541459225 (pk 1 fun _ => 1)) fun x y z t _ _ _ _ => Nat.beq x 3297649361 && Nat.beq y 167500958 && Nat.beq z 2849018133 && Nat.beq t 1494947347) = true := by decide +kernel
theorem key97 : (saltB 97).data.toList = [196, 142, 34, 209, 9, 251, 220, 158, 169, 208, 145, 21, 89, 27, 22, 19] := by
  obtain ⟨hs, hN⟩ := salt_pad 97 6042970322504969575900040937114138244849004259680678238936072771759045268016080427036432986718542105122893168205599228415998176396656319535692475589984296 (by decide +kernel)
  obtain ⟨e0, e1, e2, e3⟩ := one_lane _ hs _ _ _ _ _ hN run97
  have := half_of (saltS 97) [3297649361, 167500958, 2849018133, 1494947347] fun j hj => by
    rw [hs]
    have : j = 0 ∨ j = 1 ∨ j = 2 ∨ j = 3 := by omega
    rcases this with rfl | rfl | rfl | rfl <;> assumption
  unfold saltB
  rw [this]
  decide +kernel
def sec3_97 : List Nat := [12881442, 13699579, 14458537, 13668629, 5839638, 19]
def sec0_97 : List Nat := [1, 1, 0, 0, 0, 1, 0, 0, 1, 0, 0, 0, 1, 1, 1, 0, 0, 0, 1, 0, 0, 0, 1, 0, 1, 1, 0, 1, 0, 0, 0, 1, 0, 0, 0, 0, 1, 0, 0, 1, 1, 1, 1, 1, 1, 0, 1, 1, 1, 1, 0, 1, 1, 1, 0, 0, 1, 0, 0, 1, 1, 1, 1, 0, 1, 0, 1, 0, 1, 0, 0, 1, 1, 1, 0, 1, 0, 0, 0, 0, 1, 0, 0, 1, 0, 0, 0, 1, 0, 0, 0, 1, 0, 1, 0, 1, 0, 1, 0, 1, 1, 0, 0, 1, 0, 0, 0, 1, 1, 0, 1, 1, 0, 0, 0, 1, 0, 1, 1, 0, 0, 0, 0, 1, 0, 0, 1, 1]
theorem pk3_97 : pack3 (saltB 97).data.toList = sec3_97.map Int.ofNat := by rw [key97]; decide +kernel
theorem pk0_97 : bitsL (saltB 97).data.toList = sec0_97.map Int.ofNat := by rw [key97]; decide +kernel
theorem run98 : (shaM (mk 1) (pk 1 fun _ => 1) [6042970322517163906174712781767972609027883815562508700430857815317088849889617035391197696172137050837984933717942302365691171017341663190689695454461992] 1 (Nat.mul 1779033703 (pk 1 fun _ => 1)) (Nat.mul 3144134277 (pk 1 fun _ => 1)) (Nat.mul 1013904242 (pk 1 fun _ => 1)) (Nat.mul 2773480762 (pk 1 fun _ => 1)) (Nat.mul 1359893119 (pk 1 fun _ => 1)) (Nat.mul 2600822924 (pk 1 fun _ => 1)) (Nat.mul 528734635 (pk 1 fun _ => 1)) (Nat.mul 1541459225 (pk 1 fun _ => 1)) fun x y z t _ _ _ _ => Nat.beq x 147625255 && Nat.beq y 1578029927 && Nat.beq z 3994102954 && Nat.beq t 3087516338) = true := by decide +kernel
theorem key98 : (saltB 98).data.toList = [8, 204, 149, 39, 94, 14, 211, 103, 238, 17, 44, 170, 184, 7, 194, 178] := by
  obtain ⟨hs, hN⟩ := salt_pad 98 6042970322517163906174712781767972609027883815562508700430857815317088849889617035391197696172137050837984933717942302365691171017341663190689695454461992 (by decide +kernel)
  obtain ⟨e0, e1, e2, e3⟩ := one_lane _ hs _ _ _ _ _ hN run98
  have := half_of (saltS 98) [147625255, 1578029927, 3994102954, 3087516338] fun j hj => by
    rw [hs]
    have : j = 0 ∨ j = 1 ∨ j = 2 ∨ j = 3 := by omega
    rcases this with rfl | rfl | rfl | rfl <;> assumption
  unfold saltB
  rw [this]
  decide +kernel
def sec3_98 : List Nat := [576661, 2579982, 13854702, 1125546, 12060610, 178]
def sec0_98 : List Nat := [0, 0, 0, 0, 1, 0, 0, 0, 1, 1, 0, 0, 1, 1, 0, 0, 1, 0, 0, 1, 0, 1, 0, 1, 0, 0, 1, 0, 0, 1, 1, 1, 0, 1, 0, 1, 1, 1, 1, 0, 0, 0, 0, 0, 1, 1, 1, 0, 1, 1, 0, 1, 0, 0, 1, 1, 0, 1, 1, 0, 0, 1, 1, 1, 1, 1, 1, 0, 1, 1, 1, 0, 0, 0, 0, 1, 0, 0, 0, 1, 0, 0, 1, 0, 1, 1, 0, 0, 1, 0, 1, 0, 1, 0, 1, 0, 1, 0, 1, 1, 1, 0, 0, 0, 0, 0, 0, 0, 0, 1, 1, 1, 1, 1, 0, 0, 0, 0, 1, 0, 1, 0, 1, 1, 0, 0, 1, 0]
theorem pk3_98 : pack3 (saltB 98).data.toList = sec3_98.map Int.ofNat := by rw [key98]; decide +kernel
theorem pk0_98 : bitsL (saltB 98).data.toList = sec0_98.map Int.ofNat := by rw [key98]; decide +kernel
theorem run99 : (shaM (mk 1) (pk 1 fun _ => 1) [6042970322529358236449384626421806973206763371444339161925642858875132431763153643745962405625731996553076699230285376315384165638027006845686915318939688] 1 (Nat.mul 1779033703 (pk 1 fun _ => 1)) (Nat.mul 3144134277 (pk 1 fun _ => 1)) (Nat.mul 1013904242 (pk 1 fun _ => 1)) (Nat.mul 2773480762 (pk 1 fun _ => 1)) (Nat.mul 1359893119 (pk 1 fun _ => 1)) (Nat.mul 2600822924 (pk 1 fun _ => 1)) (Nat.mul 528734635 (pk 1 fun _ => 1)) (Nat.mul 1541459225 (pk 1 fun _ => 1)) fun x y z t _ _ _ _ => Nat.beq x 3712796540 && Nat.beq y 1540055454 && Nat.beq z 17825184 && Nat.beq t 1047665923) = true := by decide +kernel
theorem key99 : (saltB 99).data.toList = [221, 76, 199, 124, 91, 203, 97, 158, 1, 15, 253, 160, 62, 114, 29, 3] := by
  obtain ⟨hs, hN⟩ := salt_pad 99 6042970322529358236449384626421806973206763371444339161925642858875132431763153643745962405625731996553076699230285376315384165638027006845686915318939688 (by decide +kernel)
  obtain ⟨e0, e1, e2, e3⟩ := one_lane _ hs _ _ _ _ _ hN run99
  have := half_of (saltS 99) [3712796540, 1540055454, 17825184, 1047665923] fun j hj => by
    rw [hs]
    have : j = 0 ∨ j = 1 ∨ j = 2 ∨ j = 3 := by omega
    rcases this with rfl | rfl | rfl | rfl <;> assumption
  unfold saltB
  rw [this]
  decide +kernel
def sec3_99 : List Nat := [14503111, 8149963, 6397441, 1047968, 4092445, 3]
def sec0_99 : List Nat := [1, 1, 0, 1, 1, 1, 0, 1, 0, 1, 0, 0, 1, 1, 0, 0, 1, 1, 0, 0, 0, 1, 1, 1, 0, 1, 1, 1, 1, 1, 0, 0, 0, 1, 0, 1, 1, 0, 1, 1, 1, 1, 0, 0, 1, 0, 1, 1, 0, 1, 1, 0, 0, 0, 0, 1, 1, 0, 0, 1, 1, 1, 1, 0, 0, 0, 0, 0, 0, 0, 0, 1, 0, 0, 0, 0, 1, 1, 1, 1, 1, 1, 1, 1, 1, 1, 0, 1, 1, 0, 1, 0, 0, 0, 0, 0, 0, 0, 1, 1, 1, 1, 1, 0, 0, 1, 1, 1, 0, 0, 1, 0, 0, 0, 0, 1, 1, 1, 0, 1, 0, 0, 0, 0, 0, 0, 1, 1]
theorem pk3_99 : pack3 (saltB 99).data.toList = sec3_99.map Int.ofNat := by rw [key99]; decide +kernel
theorem pk0_99 : bitsL (saltB 99).data.toList = sec0_99.map Int.ofNat := by rw [key99]; decide +kernel
end Go.Proofs.YtjfphobfikadlaaGreatDoor.Lane
