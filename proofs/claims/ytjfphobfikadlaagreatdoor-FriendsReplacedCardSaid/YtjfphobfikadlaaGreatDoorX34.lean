/- The messages of marks as numbers: the values of the plays' shares, the padding, the lanes. Lanes of padded messages, the first words of their sums, and that two rows of lanes differ everywhere. -/
import Derived.Test.YtjfphobfikadlaaGreatDoorX33
set_option linter.unusedVariables false
set_option linter.unusedSimpArgs false
namespace Go.Proofs.YtjfphobfikadlaaGreatDoor.Lane
open Go.RowKit

/-- What random numbers add to a value. -/
def sN (p s0 h : Nat) : Nat → Nat → Nat → Nat
  | 0, _, _ => 0
  | k + 1, c, hp => fillN p s0 (c + 1) * (hp * h) + sN p s0 h k (c + 1) (hp * h)
noncomputable def nv {α : Type} (p h k : Nat) : Nat → Nat → Nat → Nat → (Nat → Nat → Nat → α) → α :=
  Nat.rec (fun x c v _ K => K (Nat.mod v p) x c) (fun _ ih x c v hp K => fr (Nat.mod (Nat.add (Nat.add (Nat.mul x 7) (Nat.mul 3 c)) 5) p) fun x' => ih x' (Nat.add c 1) (Nat.add v (Nat.mul x' (Nat.mul hp h))) (Nat.mul hp h) K) k
theorem nv_eq {α : Type} (p s0 h : Nat) (K : Nat → Nat → Nat → α) : ∀ (k c v hp : Nat), nv p h k (fillN p s0 c) c v hp K = K ((v + sN p s0 h k c hp) % p) (fillN p s0 (c + k)) (c + k)
  | 0, c, v, hp => by
    unfold nv
    simp only [fr_eq]
    rfl
  | k + 1, c, v, hp => by
    have e : nv p h (k + 1) (fillN p s0 c) c v hp K = nv p h k (fillN p s0 (c + 1)) (c + 1) (v + fillN p s0 (c + 1) * (hp * h)) (hp * h) K := by
      unfold nv
      simp only [fr_eq]
      rfl
    rw [e, nv_eq p s0 h K k]
    show K ((v + _ + _) % p) _ _ = K ((v + (_ + _)) % p) _ _
    rw [Nat.add_assoc, show c + 1 + k = c + (k + 1) by omega]
/-- The values of a share, each with d added. -/
def vlN (p s0 h k d : Nat) : List Nat → Nat → List Nat
  | [], _ => []
  | s :: t, c => ((s + sN p s0 h k c 1) % p + d) % p :: vlN p s0 h k d t (c + k)
def bysN (l : List Nat) : List UInt8 := l.flatMap fun y => pl 10 (2 * y)
noncomputable def mv {α : Type} (p h k d : Nat) (sec : List Nat) : Nat → Nat → Nat → Nat → (Nat → Nat → α) → α :=
  List.rec (fun _ _ m L K => K m L) (fun s _ ih x c m L K => nv p h k x c s 1 fun v x' c' => fr c' fun c'' => fr (Nat.mul 2 (Nat.mod (Nat.add v d) p)) fun y => pu y m L fun m' L' => ih x' c'' m' L' K) sec
theorem mv_eq {α : Type} (p s0 h k d : Nat) (hp0 : 0 < p) (hp : p < 1073741824) (K : Nat → Nat → α) : ∀ (sec : List Nat) (c : Nat) (l : List UInt8), mv p h k d sec (fillN p s0 c) c (hn l) l.length K = K (hn (l ++ bysN (vlN p s0 h k d sec c))) (l ++ bysN (vlN p s0 h k d sec c)).length
  | [], c, l => by simp [bysN, vlN]; rfl
  | s :: t, c, l => by
    have e : mv p h k d (s :: t) (fillN p s0 c) c (hn l) l.length K = pu (2 * (((s + sN p s0 h k c 1) % p + d) % p)) (hn l) l.length fun m' L' => mv p h k d t (fillN p s0 (c + k)) (c + k) m' L' K := by
      show nv p h k (fillN p s0 c) c s 1 _ = _
      rw [nv_eq, fr_eq, fr_eq]
      rfl
    have hb : ((s + sN p s0 h k c 1) % p + d) % p < p := Nat.mod_lt _ hp0
    rw [e, pu_eq _ _ _ (by omega), mv_eq p s0 h k d hp0 hp K t]
    have e2 : l ++ bysN (vlN p s0 h k d (s :: t) c) = l ++ pl 10 (2 * (((s + sN p s0 h k c 1) % p + d) % p)) ++ bysN (vlN p s0 h k d t (c + k)) := by
      simp [bysN, vlN]
    rw [e2]
/-- The bytes of a share's mark. -/
def mbL (p s0 h k d : Nat) (sec : List Nat) : List UInt8 := pl 10 (2 * h) ++ pl 10 (2 * sec.length) ++ bysN (vlN p s0 h k d sec 0)
def FitsB (B n : Nat) : Prop := n + 9 ≤ 64 * B ∧ 64 * B < n + 73
instance (B n : Nat) : Decidable (FitsB B n) := by unfold FitsB; infer_instance
/-- The padded bytes' number; F if they are not just so many blocks. -/
noncomputable def pd {α : Type} (F : α) (B m L : Nat) (K : Nat → α) : α :=
  Bool.rec F (Bool.rec F (fr (Nat.add (Nat.mul (Nat.mul (Nat.add (Nat.mul m 256) 128) (Nat.pow 256 (Nat.sub (Nat.mul 64 B) (Nat.add L 9)))) 18446744073709551616) (Nat.mul 8 L)) K) (Nat.blt (Nat.mul 64 B) (Nat.add L 73))) (Nat.ble (Nat.add L 9) (Nat.mul 64 B))
noncomputable def msg {α : Type} (F : α) (p h k d B n : Nat) (sec : List Nat) (s0 : Nat) (K : Nat → α) : α :=
  pu (Nat.mul 2 h) 0 0 fun m L => pu (Nat.mul 2 n) m L fun m L => mv p h k d sec s0 0 m L fun m L => pd F B m L K
theorem repeat_hn (n : Nat) (l : List UInt8) : hn (l ++ Lib.repeatL [0] n) = hn l * 256 ^ n := by
  induction n with
  | zero => simp [Lib.repeatL]
  | succ n ih =>
    have h0 : hn (Lib.repeatL [0] (n + 1)) = 0 := by
      have : ∀ n, hn (Lib.repeatL [0] n) = 0 := by
        intro n
        induction n with
        | zero => rfl
        | succ n ih =>
          show hn ([0] ++ Lib.repeatL [0] n) = 0
          rw [hn_app, ih]; simp [hn]
      exact this _
    rw [hn_app, h0, repeatL_len]
    omega
theorem lenB_hn (len : Nat) : ∀ k, k ≤ 8 → hn (lenB len k) = len * 8 / 2 ^ (8 * (8 - k)) % 256 ^ k
  | 0, _ => by simp [lenB, hn, Nat.mod_one]
  | k + 1, hk => by
    show hn (lenB len k ++ [UInt8.ofNat (len * 8 / 2 ^ (8 * (7 - k)) % 256)]) = _
    rw [hn_snoc _ _ (by omega), lenB_hn len k (by omega)]
    have e : 2 ^ (8 * (8 - k)) = 2 ^ (8 * (7 - k)) * 256 := by
      rw [show (256 : Nat) = 2 ^ 8 from by decide, ← Nat.pow_add, show 8 * (7 - k) + 8 = 8 * (8 - k) by omega]
    rw [e, ← Nat.div_div_eq_div_mul, show 8 - (k + 1) = 7 - k by omega]
    generalize len * 8 / 2 ^ (8 * (7 - k)) = y
    rw [Nat.pow_succ, Nat.mul_comm (256 ^ k) 256, Nat.mod_mul]
    omega
theorem pad_hn (l : List UInt8) (n B : Nat) (hl : l.length = n) (hB : FitsB B n) (hn2 : n < 1000000) : hn (padL l n) = (hn l * 256 + 128) * 256 ^ (64 * B - (n + 9)) * 18446744073709551616 + 8 * n ∧ (padL l n).length = 64 * B := by
  obtain ⟨h1, h2⟩ := hB
  have hz : zerosN l.length = 64 * B - (n + 9) := by rw [hl]; unfold zerosN; omega
  constructor
  · unfold padL
    rw [hz, hn_app, repeat_hn, lenB_len]
    have h8 : hn (lenB n 8) = 8 * n := by
      rw [lenB_hn n 8 (by omega)]
      simp
      omega
    have h128 : hn (l ++ [128]) = hn l * 256 + 128 := hn_snoc l 128 (by omega)
    rw [h8, h128, show (256 : Nat) ^ 8 = 18446744073709551616 from by decide]
  · unfold padL
    simp only [List.length_append, List.length_singleton, repeatL_len, lenB_len, hz]
    omega
theorem pd_eq {α : Type} (F : α) (B : Nat) (K : Nat → α) (l : List UInt8) (hs : l.length < 1000000) : pd F B (hn l) l.length K = if FitsB B l.length then K (hn (padL l l.length)) else F := by
  unfold pd
  rw [fr_eq]
  by_cases h1 : l.length + 9 ≤ 64 * B
  · have b1 : Nat.ble (Nat.add l.length 9) (Nat.mul 64 B) = true := by rw [Nat.ble_eq]; exact h1
    rw [b1]
    by_cases h2 : 64 * B < l.length + 73
    · have b2 : Nat.blt (Nat.mul 64 B) (Nat.add l.length 73) = true := by rw [Nat.blt_eq]; exact h2
      rw [if_pos ⟨h1, h2⟩, (pad_hn l l.length B rfl ⟨h1, h2⟩ hs).1, b2]
      generalize hn l = x
      generalize l.length = y
      rfl
    · have b2 : Nat.blt (Nat.mul 64 B) (Nat.add l.length 73) = false := by
        cases hc : Nat.blt (Nat.mul 64 B) (Nat.add l.length 73) with
        | false => rfl
        | true => rw [Nat.blt_eq] at hc; exact absurd hc h2
      rw [if_neg (fun h => h2 h.2), b2]
  · have b1 : Nat.ble (Nat.add l.length 9) (Nat.mul 64 B) = false := by
      cases hc : Nat.ble (Nat.add l.length 9) (Nat.mul 64 B) with
      | false => rfl
      | true => rw [Nat.ble_eq] at hc; exact absurd hc h1
    rw [b1, if_neg (fun h => h1 h.1)]
theorem msg_eq {α : Type} (F : α) (p h k d B n : Nat) (sec : List Nat) (s0 : Nat) (K : Nat → α) (hp0 : 0 < p) (hp : p < 1073741824) (hh : h < 1000) (hn1 : sec.length = n) (hn2 : n < 1000000) (hs : (mbL p s0 h k d sec).length < 1000000) :
    msg F p h k d B n sec s0 K = if FitsB B (mbL p s0 h k d sec).length then K (hn (padL (mbL p s0 h k d sec) (mbL p s0 h k d sec).length)) else F := by
  subst hn1
  rw [← pd_eq F B K _ hs]
  unfold msg
  have e0 : ∀ (K : Nat → Nat → α), pu (Nat.mul 2 h) 0 0 K = K (hn (pl 10 (2 * h))) (pl 10 (2 * h)).length := fun K => pu_eq K (2 * h) [] (by omega)
  rw [e0]
  have e2 : ∀ (l : List UInt8) (K : Nat → Nat → α), pu (Nat.mul 2 sec.length) (hn l) l.length K = K (hn (l ++ pl 10 (2 * sec.length))) (l ++ pl 10 (2 * sec.length)).length := fun l K => pu_eq K (2 * sec.length) l (by omega)
  rw [e2]
  have e1 : ∀ (l : List UInt8) (K : Nat → Nat → α), mv p h k d sec s0 0 (hn l) l.length K = K (hn (l ++ bysN (vlN p s0 h k d sec 0))) (l ++ bysN (vlN p s0 h k d sec 0)).length := fun l K => mv_eq p s0 h k d hp0 hp K sec 0 l
  rw [e1]
  rfl
end Go.Proofs.YtjfphobfikadlaaGreatDoor.Lane
namespace Go.Proofs.YtjfphobfikadlaaGreatDoor.Lane
open Go.RowKit

def ksL : List Nat := [1116352408, 1899447441, 3049323471, 3921009573, 961987163, 1508970993, 2453635748, 2870763221, 3624381080, 310598401, 607225278, 1426881987, 1925078388, 2162078206, 2614888103, 3248222580, 3835390401, 4022224774, 264347078, 604807628, 770255983, 1249150122, 1555081692, 1996064986, 2554220882, 2821834349, 2952996808, 3210313671, 3336571891, 3584528711, 113926993, 338241895, 666307205, 773529912, 1294757372, 1396182291, 1695183700, 1986661051, 2177026350, 2456956037, 2730485921, 2820302411, 3259730800, 3345764771, 3516065817, 3600352804, 4094571909, 275423344, 430227734, 506948616, 659060556, 883997877, 958139571, 1322822218, 1537002063, 1747873779, 1955562222, 2024104815, 2227730452, 2361852424, 2428436474, 2756734187, 3204031479, 3329325298]
theorem ksL_eq : ksL = shaK.map Int.toNat := by decide
theorem ksL_get (j : Nat) (h : j < 64) : ksL.getD j 0 = toN kOf j := by
  rw [ksL_eq]
  unfold toN kOf
  have hl : shaK.length = 64 := by decide
  rw [List.getD_eq_getElem?_getD, List.getD_eq_getElem?_getD, List.getElem?_map, List.getElem?_eq_getElem (by omega)]
  rfl
theorem wd_of_list (l : List Int) (h : (l.all fun x => decide (0 ≤ x ∧ x < 4294967296)) = true) : Wd fun i => l.getD i 0 := by
  intro i
  show 0 ≤ l.getD i 0 ∧ l.getD i 0 < 4294967296
  rw [List.getD_eq_getElem?_getD]
  by_cases hi : i < l.length
  · rw [List.getElem?_eq_getElem hi]
    have := List.all_eq_true.1 h _ (List.getElem_mem hi)
    simpa using this
  · rw [List.getElem?_eq_none (by omega)]
    decide
theorem kOf_wd : Wd kOf := wd_of_list shaK (by decide)
theorem bOf_wd : Wd bOf := wd_of_list shaB (by decide)

/-- A word of each message, in lanes. -/
noncomputable def pkL (s : Nat) (l : List Nat) : Nat := List.rec 0 (fun m _ ih => Nat.add (Nat.land (Nat.shiftRight m s) 4294967295) (Nat.mul 18446744073709551616 ih)) l
theorem pkL_eq (s : Nat) : ∀ l : List Nat, pkL s l = pk l.length fun i => Nat.land (Nat.shiftRight (l.getD i 0) s) msk
  | [] => rfl
  | m :: l => by
    show Nat.add _ (Nat.mul _ (pkL s l)) = _ + _ * pk l.length _
    rw [pkL_eq s l]
    rfl
theorem pkL_pw (s : Nat) (l : List Nat) : PW l.length (pkL s l) fun i => Nat.land (Nat.shiftRight (l.getD i 0) s) msk := ⟨pkL_eq s l, fun i _ => and_lt _⟩
/-- The blocks of the lanes, the highest first. -/
noncomputable def shaM {α : Type} (m u : Nat) (l : List Nat) (r : Nat) : Nat → Nat → Nat → Nat → Nat → Nat → Nat → Nat → (Nat → Nat → Nat → Nat → Nat → Nat → Nat → Nat → α) → α :=
  Nat.rec (fun a b c d e f g h K => K a b c d e f g h) (fun r ih a b c d e f g h K => fr (Nat.mul 512 r) fun s => fr (pkL (Nat.add s 480) l) fun w0 => fr (pkL (Nat.add s 448) l) fun w1 => fr (pkL (Nat.add s 416) l) fun w2 => fr (pkL (Nat.add s 384) l) fun w3 => fr (pkL (Nat.add s 352) l) fun w4 => fr (pkL (Nat.add s 320) l) fun w5 => fr (pkL (Nat.add s 288) l) fun w6 => fr (pkL (Nat.add s 256) l) fun w7 => fr (pkL (Nat.add s 224) l) fun w8 => fr (pkL (Nat.add s 192) l) fun w9 => fr (pkL (Nat.add s 160) l) fun w10 => fr (pkL (Nat.add s 128) l) fun w11 => fr (pkL (Nat.add s 96) l) fun w12 => fr (pkL (Nat.add s 64) l) fun w13 => fr (pkL (Nat.add s 32) l) fun w14 => fr (pkL (Nat.add s 0) l) fun w15 =>
    blkM m u ksL a b c d e f g h w0 w1 w2 w3 w4 w5 w6 w7 w8 w9 w10 w11 w12 w13 w14 w15 fun a' b' c' d' e' f' g' h' => ih a' b' c' d' e' f' g' h' K) r


theorem u32_join (hi lo : Nat) (i : Nat) (h1 : hi % 2 ^ i = 0) (h2 : hi < 4294967296) (h3 : lo < 2 ^ i) (h4 : lo < 4294967296) : bits .or .u32 (hi : Int) (lo : Int) = ((hi + lo : Nat) : Int) := by
  have := bits_join .u32 32 (by decide) wraps_u32 i (hi : Int) (lo : Int) (Int.natCast_nonneg _) (by exact_mod_cast h1) (by exact_mod_cast h2) (Int.natCast_nonneg _) (by exact_mod_cast h3) (by exact_mod_cast h4)
  rw [this]; simp
/-- Four bytes as a number. -/
def w4 (a b c d : Nat) : Nat := a * 16777216 + b * 65536 + c * 256 + d
theorem word4_nat (a b c d : Nat) (ha : a < 256) (hb : b < 256) (hc : c < 256) (hd : d < 256) : word4 (a : Int) (b : Int) (c : Int) (d : Int) = ((w4 a b c d : Nat) : Int) := by
  unfold word4 w4
  rw [show (a : Int) * 16777216 = ((a * 16777216 : Nat) : Int) by simp, show (b : Int) * 65536 = ((b * 65536 : Nat) : Int) by simp, show (c : Int) * 256 = ((c * 256 : Nat) : Int) by simp]
  rw [u32_join _ _ 24 (by omega) (by omega) (by omega) (by omega), u32_join _ _ 16 (by omega) (by omega) (by omega) (by omega), u32_join _ _ 8 (by omega) (by omega) (by omega) (by omega)]
theorem asm_ (A w Z d c : Nat) : A * (c * Z) + (w * Z + d) = (A * c + w) * Z + d := by rw [Nat.add_mul, Nat.mul_assoc, Nat.add_assoc]
theorem ones_ (x d c : Nat) (hc : c = d + 1) : (1 + c * x) * d + 1 = (x * d + 1) * c := by
  have h1 : (1 + c * x) * d = d + x * d * c := by rw [Nat.add_mul, Nat.one_mul, Nat.mul_assoc, Nat.mul_comm c]
  have h2 : (x * d + 1) * c = x * d * c + c := by rw [Nat.add_mul, Nat.one_mul]
  rw [h1, h2]
  generalize x * d * c = y
  omega
/-- Four bytes of a number. -/
theorem hn_word (L : List UInt8) (j : Nat) (h : j + 4 ≤ L.length) : Nat.land (Nat.shiftRight (hn L) (8 * (L.length - 4 - j))) msk = w4 (L.getD j 0).toNat (L.getD (j + 1) 0).toNat (L.getD (j + 2) 0).toNat (L.getD (j + 3) 0).toNat := by
  have g : ∀ i, i < L.length → L.getD i 0 = L[i]! := fun i hi => by simp [List.getD_eq_getElem?_getD, hi]
  have e : L = L.take j ++ ([L.getD j 0, L.getD (j + 1) 0, L.getD (j + 2) 0, L.getD (j + 3) 0] ++ L.drop (j + 4)) := by
    have h0 : L = L.take j ++ L.drop j := (List.take_append_drop j L).symm
    have h1 : L.drop j = L.getD j 0 :: L.drop (j + 1) := by rw [List.drop_eq_getElem_cons (by omega)]; simp [List.getD_eq_getElem?_getD, show j < L.length by omega]
    have h2 : L.drop (j + 1) = L.getD (j + 1) 0 :: L.drop (j + 2) := by rw [List.drop_eq_getElem_cons (by omega)]; simp [List.getD_eq_getElem?_getD, show j + 1 < L.length by omega]
    have h3 : L.drop (j + 2) = L.getD (j + 2) 0 :: L.drop (j + 3) := by rw [List.drop_eq_getElem_cons (by omega)]; simp [List.getD_eq_getElem?_getD, show j + 2 < L.length by omega]
    have h4 : L.drop (j + 3) = L.getD (j + 3) 0 :: L.drop (j + 4) := by rw [List.drop_eq_getElem_cons (by omega)]; simp [List.getD_eq_getElem?_getD, show j + 3 < L.length by omega]
    rw [h4] at h3; rw [h3] at h2; rw [h2] at h1; rw [h1] at h0
    exact h0
  have hl : (L.drop (j + 4)).length = L.length - 4 - j := by rw [List.length_drop]; omega
  have he : hn L = (hn (L.take j) * 4294967296 + w4 (L.getD j 0).toNat (L.getD (j + 1) 0).toNat (L.getD (j + 2) 0).toNat (L.getD (j + 3) 0).toNat) * 256 ^ (L.length - 4 - j) + hn (L.drop (j + 4)) := by
    conv => lhs; rw [e]
    rw [hn_app, hn_app, List.length_append, Nat.pow_add, hl]
    have h4 : hn [L.getD j 0, L.getD (j + 1) 0, L.getD (j + 2) 0, L.getD (j + 3) 0] = w4 (L.getD j 0).toNat (L.getD (j + 1) 0).toNat (L.getD (j + 2) 0).toNat (L.getD (j + 3) 0).toNat := by
      unfold w4; simp only [hn, List.foldl_cons, List.foldl_nil]; omega
    rw [h4, show ([L.getD j 0, L.getD (j + 1) 0, L.getD (j + 2) 0, L.getD (j + 3) 0] : List UInt8).length = 4 from rfl, show (256 : Nat) ^ 4 = 4294967296 from by decide]
    generalize 256 ^ (L.length - 4 - j) = Z
    generalize w4 (L.getD j 0).toNat (L.getD (j + 1) 0).toNat (L.getD (j + 2) 0).toNat (L.getD (j + 3) 0).toNat = w
    have hasm := asm_ (hn (L.take j)) w Z (hn (L.drop (j + 4))) 4294967296
    exact hasm
  have b := (L.getD j 0).toNat_lt
  have b1 := (L.getD (j + 1) 0).toNat_lt
  have b2 := (L.getD (j + 2) 0).toNat_lt
  have b3 := (L.getD (j + 3) 0).toNat_lt
  have hlt := hn_lt (L.drop (j + 4))
  rw [hl] at hlt
  have hs : Nat.shiftRight (hn L) (8 * (L.length - 4 - j)) = hn (L.take j) * 4294967296 + w4 (L.getD j 0).toNat (L.getD (j + 1) 0).toNat (L.getD (j + 2) 0).toNat (L.getD (j + 3) 0).toNat := by
    show hn L >>> _ = _
    rw [Nat.shiftRight_eq_div_pow, Nat.pow_mul, show (2 : Nat) ^ 8 = 256 from by decide, he, Nat.mul_comm _ (256 ^ (L.length - 4 - j)), Nat.mul_add_div (Nat.pow_pos (by decide)), Nat.div_eq_of_lt hlt, Nat.add_zero]
  rw [hs]
  have : ∀ x : Nat, Nat.land x msk = x % 4294967296 := fun x => and_msk x
  rw [this]
  unfold w4
  omega
theorem word_of (P : ByteArray) (B b t : Nat) (hP : P.size = 64 * B) (hb : b < B) (ht : t < 16) : toN (wordAt (P.extract (64 * b) (64 * b + 64))) t = Nat.land (Nat.shiftRight (hn P.data.toList) (512 * (B - 1 - b) + (480 - 32 * t))) msk := by
  have hl : P.data.toList.length = 64 * B := hP
  have hw := hn_word P.data.toList (64 * b + 4 * t) (by omega)
  rw [show 8 * (P.data.toList.length - 4 - (64 * b + 4 * t)) = 512 * (B - 1 - b) + (480 - 32 * t) by omega] at hw
  rw [hw]
  have hx : ∀ i, i < 64 → byteAt (P.extract (64 * b) (64 * b + 64)) i = (((P.data.toList.getD (64 * b + i) 0).toNat : Nat) : Int) := fun i hi => by
    rw [byteAt_extract P _ _ i (by omega) (by omega), byteAt_list, List.getD_eq_getElem?_getD]
  unfold toN wordAt
  rw [hx _ (by omega), hx _ (by omega), hx _ (by omega), hx _ (by omega), word4_nat _ _ _ _ (UInt8.toNat_lt _) (UInt8.toNat_lt _) (UInt8.toNat_lt _) (UInt8.toNat_lt _)]
  exact Int.toNat_natCast _
theorem shaSt_wd (P : ByteArray) : ∀ b, Wd (shaSt P b)
  | 0 => bOf_wd
  | b + 1 => by
    intro j
    show 0 ≤ compress kOf (shaSt P b) _ j ∧ compress kOf (shaSt P b) _ j < 4294967296
    unfold compress fin
    split
    · exact mod_bd _
    · exact shaSt_wd P b j
/-- So do the lanes hold the states behind all blocks. -/
theorem shaM_ok {α : Type} (n B : Nat) (P : Nat → ByteArray) (l : List Nat) (hl : l.length = n) (hP : ∀ i, i < n → (P i).size = 64 * B ∧ l.getD i 0 = hn (P i).data.toList) (Q : Nat → Nat → Nat → Nat → Nat → Nat → Nat → Nat → α) : ∀ (r : Nat), r ≤ B →
    ∀ (a b c d e f g h : Nat), PW n a (fun i => toN (shaSt (P i) (B - r)) 0) → PW n b (fun i => toN (shaSt (P i) (B - r)) 1) → PW n c (fun i => toN (shaSt (P i) (B - r)) 2) → PW n d (fun i => toN (shaSt (P i) (B - r)) 3) → PW n e (fun i => toN (shaSt (P i) (B - r)) 4) → PW n f (fun i => toN (shaSt (P i) (B - r)) 5) → PW n g (fun i => toN (shaSt (P i) (B - r)) 6) → PW n h (fun i => toN (shaSt (P i) (B - r)) 7) →
      ∃ X : Nat → Nat, shaM (mk n) (pk n fun _ => 1) l r a b c d e f g h Q = Q (X 0) (X 1) (X 2) (X 3) (X 4) (X 5) (X 6) (X 7) ∧ ∀ j, j < 8 → PW n (X j) (fun i => toN (shaSt (P i) B) j)
  | 0, _, a, b, c, d, e, f, g, h, ha, hb, hc, hd, he, hf, hg, hh => by
    refine ⟨fun j => [a, b, c, d, e, f, g, h].getD j 0, rfl, fun j hj => ?_⟩
    rw [Nat.sub_zero] at *
    have : j = 0 ∨ j = 1 ∨ j = 2 ∨ j = 3 ∨ j = 4 ∨ j = 5 ∨ j = 6 ∨ j = 7 := by omega
    rcases this with rfl | rfl | rfl | rfl | rfl | rfl | rfl | rfl <;> assumption
  | r + 1, hr, a, b, c, d, e, f, g, h, ha, hb, hc, hd, he, hf, hg, hh => by
    have hw : ∀ t, t < 16 → PW n (pkL (512 * r + (480 - 32 * t)) l) (fun i => toN (wordAt ((P i).extract (64 * (B - (r + 1))) (64 * (B - (r + 1)) + 64))) t) := fun t ht => by
      have := pkL_pw (512 * r + (480 - 32 * t)) l
      rw [hl] at this
      refine ⟨this.1.trans (pk_congr n _ _ fun i hi => ?_), fun i hi => ?_⟩
      · rw [word_of (P i) B (B - (r + 1)) t (hP i hi).1 (by omega) ht, (hP i hi).2, show B - 1 - (B - (r + 1)) = r by omega]
      · show toN (wordAt ((P i).extract (64 * (B - (r + 1))) (64 * (B - (r + 1)) + 64))) t < 4294967296
        rw [word_of (P i) B (B - (r + 1)) t (hP i hi).1 (by omega) ht]
        exact and_lt _
    obtain ⟨X, h1, h2⟩ := blk_ok n kOf (fun i => (P i).extract (64 * (B - (r + 1))) (64 * (B - (r + 1)) + 64)) (fun i => shaSt (P i) (B - (r + 1))) kOf_wd (fun i => shaSt_wd _ _) (fun a b c d e f g h => shaM (mk n) (pk n fun _ => 1) l r a b c d e f g h Q) ksL rfl ksL_get
      a b c d e f g h (pkL (512 * r + (480 - 32 * 0)) l) (pkL (512 * r + (480 - 32 * 1)) l) (pkL (512 * r + (480 - 32 * 2)) l) (pkL (512 * r + (480 - 32 * 3)) l) (pkL (512 * r + (480 - 32 * 4)) l) (pkL (512 * r + (480 - 32 * 5)) l) (pkL (512 * r + (480 - 32 * 6)) l) (pkL (512 * r + (480 - 32 * 7)) l) (pkL (512 * r + (480 - 32 * 8)) l) (pkL (512 * r + (480 - 32 * 9)) l) (pkL (512 * r + (480 - 32 * 10)) l) (pkL (512 * r + (480 - 32 * 11)) l) (pkL (512 * r + (480 - 32 * 12)) l) (pkL (512 * r + (480 - 32 * 13)) l) (pkL (512 * r + (480 - 32 * 14)) l) (pkL (512 * r + (480 - 32 * 15)) l) ha hb hc hd he hf hg hh (hw 0 (by decide)) (hw 1 (by decide)) (hw 2 (by decide)) (hw 3 (by decide)) (hw 4 (by decide)) (hw 5 (by decide)) (hw 6 (by decide)) (hw 7 (by decide)) (hw 8 (by decide)) (hw 9 (by decide)) (hw 10 (by decide)) (hw 11 (by decide)) (hw 12 (by decide)) (hw 13 (by decide)) (hw 14 (by decide)) (hw 15 (by decide))
    have h3 : ∀ j, j < 8 → PW n (X j) (fun i => toN (shaSt (P i) (B - r)) j) := fun j hj => by
      have := h2 j hj
      rw [show B - r = B - (r + 1) + 1 by omega]
      exact this
    obtain ⟨Y, h4, h5⟩ := shaM_ok n B P l hl hP Q r (by omega) _ _ _ _ _ _ _ _ (h3 0 (by decide)) (h3 1 (by decide)) (h3 2 (by decide)) (h3 3 (by decide)) (h3 4 (by decide)) (h3 5 (by decide)) (h3 6 (by decide)) (h3 7 (by decide))
    refine ⟨Y, ?_, h5⟩
    rw [← h4, ← h1]
    unfold shaM
    simp only [fr_eq]
    rfl


/-- So many ones. -/
noncomputable def onesM (n : Nat) : Nat := Nat.div (Nat.sub (Nat.pow 2 (Nat.mul 64 n)) 1) 18446744073709551615
theorem onesM_eq (n : Nat) : onesM n = pk n fun _ => 1 := by
  have h : ∀ n, (pk n fun _ => 1) * 18446744073709551615 + 1 = 2 ^ (64 * n) := by
    intro n
    induction n with
    | zero => rfl
    | succ n ih =>
      have e : (pk (n + 1) fun _ => 1) = 1 + 18446744073709551616 * (pk n fun _ => 1) := rfl
      have e2 : 2 ^ (64 * (n + 1)) = 2 ^ (64 * n) * 18446744073709551616 := by rw [show 64 * (n + 1) = 64 * n + 64 by omega, Nat.pow_add, ← two64]
      rw [e, e2, ← ih]
      exact ones_ _ _ _ (by decide)
  have hn := h n
  show (2 ^ (64 * n) - 1) / 18446744073709551615 = _
  rw [← hn]
  generalize (pk n fun _ => 1) = x
  omega
theorem mk_eq (n : Nat) : Nat.mul (pk n fun _ => 1) 4294967295 = mk n := by
  have := pk_mul 4294967295 n fun _ => 1
  exact this.trans (pk_congr n _ _ fun i _ => rfl)
/-- The first words of all lanes. -/
noncomputable def firM {α : Type} (m u : Nat) (l : List Nat) (B : Nat) (K : Nat → α) : α :=
  fr (Nat.mul 1779033703 u) fun h0 => fr (Nat.mul 3144134277 u) fun h1 => fr (Nat.mul 1013904242 u) fun h2 => fr (Nat.mul 2773480762 u) fun h3 => fr (Nat.mul 1359893119 u) fun h4 => fr (Nat.mul 2600822924 u) fun h5 => fr (Nat.mul 528734635 u) fun h6 => fr (Nat.mul 1541459225 u) fun h7 => shaM m u l B h0 h1 h2 h3 h4 h5 h6 h7 fun a _ _ _ _ _ _ _ => K a
theorem firM_ok {α : Type} (n B : Nat) (P : Nat → ByteArray) (l : List Nat) (hl : l.length = n) (hP : ∀ i, i < n → (P i).size = 64 * B ∧ l.getD i 0 = hn (P i).data.toList) (Q : Nat → α) :
    ∃ X, firM (mk n) (pk n fun _ => 1) l B Q = Q X ∧ PW n X (fun i => toN (shaSt (P i) B) 0) := by
  have h0 : ∀ (c j : Nat), c < 4294967296 → c = toN bOf j → PW n (Nat.mul c (pk n fun _ => 1)) (fun i => toN (shaSt (P i) (B - B)) j) := fun c j hc e => (pw_const c hc).ext fun i => by rw [Nat.sub_self, e]; rfl
  obtain ⟨X, h1, h2⟩ := shaM_ok n B P l hl hP (fun a _ _ _ _ _ _ _ => Q a) B (Nat.le_refl _) _ _ _ _ _ _ _ _ (h0 1779033703 0 (by decide) (by decide)) (h0 3144134277 1 (by decide) (by decide)) (h0 1013904242 2 (by decide) (by decide)) (h0 2773480762 3 (by decide) (by decide)) (h0 1359893119 4 (by decide) (by decide)) (h0 2600822924 5 (by decide) (by decide)) (h0 528734635 6 (by decide) (by decide)) (h0 1541459225 7 (by decide) (by decide))
  refine ⟨X 0, ?_, h2 0 (by decide)⟩
  unfold firM
  simp only [fr_eq]
  exact h1
/-- All lanes differ. -/
noncomputable def difM (m u x y : Nat) : Bool := Nat.beq (Nat.land (Nat.shiftRight (Nat.add (Nat.xor x y) m) 32) m) u
theorem difM_ok {n X Y : Nat} {f g : Nat → Nat} (hX : PW n X f) (hY : PW n Y g) (h : difM (mk n) (pk n fun _ => 1) X Y = true) : ∀ i, i < n → f i ≠ g i := by
  have h1 := (((hX.xor hY).add (pw_mk (n := n))).up (by decide : 4294967296 + 4294967296 ≤ 18446744073709551616)).shr 32 (by decide)
  have h2 : pk n (fun i => Nat.land (Nat.shiftRight (Nat.add (Nat.xor (f i) (g i)) msk) 32) msk) = pk n fun _ => 1 := by
    rw [← h1.1]; exact Nat.eq_of_beq_eq_true h
  intro i hi e
  have h3 := pk_lane (fun i hi => Nat.lt_of_lt_of_le (h1.2 i hi) (by decide)) (fun _ _ => by decide) h2 i hi
  rw [e] at h3
  have hx : Nat.xor (g i) (g i) = 0 := Nat.xor_self _
  rw [hx] at h3
  revert h3
  decide
/-- The lanes of one group: the messages of so many seeds. -/
noncomputable def lanes (p h k d B n : Nat) (sec : List Nat) (a cnt : Nat) : List Nat → (List Nat → Bool) → Bool :=
  Nat.rec (fun acc K => K acc) (fun i ih acc K => msg false p h k d B n sec (Nat.add a i) fun m => ih (m :: acc) K) cnt
theorem lanes_ok (p h k d B n : Nat) (sec : List Nat) (a : Nat) (K : List Nat → Bool) (hp0 : 0 < p) (hp : p < 1073741824) (hh : h < 1000) (hn1 : sec.length = n) (hn2 : n < 1000000) (hs : ∀ s0, (mbL p s0 h k d sec).length < 1000000) : ∀ (cnt : Nat) (acc : List Nat), lanes p h k d B n sec a cnt acc K = true →
    (∀ i, i < cnt → FitsB B (mbL p (a + i) h k d sec).length) ∧ K ((List.range cnt).map (fun i => hn (padL (mbL p (a + i) h k d sec) (mbL p (a + i) h k d sec).length)) ++ acc) = true
  | 0, acc, hk => ⟨fun i hi => by omega, hk⟩
  | cnt + 1, acc, hk => by
    change msg false p h k d B n sec (a + cnt) (fun m => lanes p h k d B n sec a cnt (m :: acc) K) = true at hk
    rw [msg_eq _ _ _ _ _ _ _ _ _ _ hp0 hp hh hn1 hn2 (hs _)] at hk
    by_cases hf : FitsB B (mbL p (a + cnt) h k d sec).length
    · rw [if_pos hf] at hk
      obtain ⟨h1, h2⟩ := lanes_ok p h k d B n sec a K hp0 hp hh hn1 hn2 hs cnt _ hk
      refine ⟨fun i hi => ?_, ?_⟩
      · by_cases e : i = cnt
        · rw [e]; exact hf
        · exact h1 i (by omega)
      · rw [List.range_succ, List.map_append, List.append_assoc]
        exact h2
    · rw [if_neg hf] at hk
      cases hk
/-- Two sums are the same only if their first words are. -/
theorem sha_first (s t : ByteArray) (h : shaOf s = shaOf t) : toN (shaSt (padS s) ((padS s).size / 64)) 0 = toN (shaSt (padS t) ((padS t).size / 64)) 0 := by
  unfold shaOf at h
  have key : ∀ (f : Nat → Int), Wd f → f 0 = (((strOfNums (outL f)).data.toList.getD 0 0).toNat : Int) * 16777216 + (((strOfNums (outL f)).data.toList.getD 1 0).toNat : Int) * 65536 + (((strOfNums (outL f)).data.toList.getD 2 0).toNat : Int) * 256 + (((strOfNums (outL f)).data.toList.getD 3 0).toNat : Int) := fun f hf => by
    obtain ⟨h0, h1⟩ := hf 0
    have g : ∀ i, i < 4 → (((strOfNums (outL f)).data.toList.getD i 0).toNat : Int) = f 0 / ((2 ^ (24 - 8 * i) : Nat) : Int) % 256 := fun i hi => by
      have hl : (outL f).length = 32 := by simp [outL]
      have e := outL_get f i (by omega)
      rw [show i / 4 = 0 by omega, show i % 4 = i by omega] at e
      rw [strOfNums_data, List.getD_eq_getElem?_getD, List.getElem?_map]
      rw [List.getD_eq_getElem?_getD] at e
      rw [List.getElem?_eq_getElem (by omega)] at e ⊢
      simp only [Option.map_some, Option.getD_some] at e ⊢
      rw [e]
      have hb : 0 ≤ f 0 / ((2 ^ (24 - 8 * i) : Nat) : Int) % 256 ∧ f 0 / ((2 ^ (24 - 8 * i) : Nat) : Int) % 256 < 256 := ⟨Int.emod_nonneg _ (by decide), Int.emod_lt_of_pos _ (by decide)⟩
      generalize f 0 / ((2 ^ (24 - 8 * i) : Nat) : Int) % 256 = x at *
      rw [UInt8.toNat_ofNat_of_lt' (by show x.toNat < 256; omega)]
      omega
    rw [g 0 (by decide), g 1 (by decide), g 2 (by decide), g 3 (by decide)]
    simp only [show (2 ^ (24 - 8 * 0) : Nat) = 16777216 from by decide, show (2 ^ (24 - 8 * 1) : Nat) = 65536 from by decide, show (2 ^ (24 - 8 * 2) : Nat) = 256 from by decide, show (2 ^ (24 - 8 * 3) : Nat) = 1 from by decide]
    omega
  have e1 := key _ (shaSt_wd (padS s) ((padS s).size / 64))
  have e2 := key _ (shaSt_wd (padS t) ((padS t).size / 64))
  rw [h] at e1
  unfold toN
  rw [e1, e2]
/-- The marks of a group and those of its wrong shares differ. -/
noncomputable def grp (p h k n B0 B1 : Nat) (sec : List Nat) (a cnt : Nat) : Bool :=
  lanes p h k 0 B0 n sec a cnt [] fun l0 => lanes p h k 1 B1 n sec a cnt [] fun l1 => fr (onesM cnt) fun u => fr (Nat.mul u 4294967295) fun m => firM m u l0 B0 fun x => firM m u l1 B1 fun y => difM m u x y
end Go.Proofs.YtjfphobfikadlaaGreatDoor.Lane
