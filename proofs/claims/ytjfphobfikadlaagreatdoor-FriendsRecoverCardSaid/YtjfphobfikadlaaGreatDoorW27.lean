/- The rounds of the sum, many lanes at once. Contracts: the elements that follow from a seed. The messages of marks as numbers, reckoned by the kernel. The messages of marks as numbers: the values of the plays' shares, the padding, the lanes. -/
import Derived.Test.YtjfphobfikadlaaGreatDoorW26
import Derived.Test.YtjfphobfikadlaaGreatDoorW10
import Derived.Test.YtjfphobfikadlaaGreatDoorW15
set_option linter.unusedVariables false
set_option linter.unusedSimpArgs false
namespace Go.Proofs.YtjfphobfikadlaaGreatDoor.Lane
open Go.RowKit

noncomputable def rnds {α : Type} (m u : Nat) (ks : List Nat) : Nat → Nat → Nat → Nat → Nat → Nat → Nat → Nat → Nat → Nat → Nat → Nat → Nat → Nat → Nat → Nat → Nat → Nat → Nat → Nat → Nat → Nat → Nat → Nat → (Nat → Nat → Nat → Nat → Nat → Nat → Nat → Nat → α) → α :=
  List.rec (fun a b c d e f g h w0 w1 w2 w3 w4 w5 w6 w7 w8 w9 w10 w11 w12 w13 w14 w15 K => K a b c d e f g h)
    (fun k _ ih a b c d e f g h w0 w1 w2 w3 w4 w5 w6 w7 w8 w9 w10 w11 w12 w13 w14 w15 K => fr (t1M m e f g h (Nat.mul k u) w0) fun x => fr (t2M m a b c) fun y => fr (adM m x y) fun a' => fr (adM m d x) fun e' => fr (nwM m w0 w1 w9 w14) fun w' =>
      ih a' a b c e' e f g w1 w2 w3 w4 w5 w6 w7 w8 w9 w10 w11 w12 w13 w14 w15 w' K) ks
theorem rnds_nil {α : Type} (m u : Nat) (a b c d e f g h w0 w1 w2 w3 w4 w5 w6 w7 w8 w9 w10 w11 w12 w13 w14 w15 : Nat) (K : Nat → Nat → Nat → Nat → Nat → Nat → Nat → Nat → α) : rnds m u [] a b c d e f g h w0 w1 w2 w3 w4 w5 w6 w7 w8 w9 w10 w11 w12 w13 w14 w15 K = K a b c d e f g h := rfl
theorem rnds_cons {α : Type} (m u k : Nat) (ks : List Nat) (a b c d e f g h w0 w1 w2 w3 w4 w5 w6 w7 w8 w9 w10 w11 w12 w13 w14 w15 : Nat) (K : Nat → Nat → Nat → Nat → Nat → Nat → Nat → Nat → α) : rnds m u (k :: ks) a b c d e f g h w0 w1 w2 w3 w4 w5 w6 w7 w8 w9 w10 w11 w12 w13 w14 w15 K =
    rnds m u ks (adM m (t1M m e f g h (Nat.mul k u) w0) (t2M m a b c)) a b c (adM m d (t1M m e f g h (Nat.mul k u) w0)) e f g w1 w2 w3 w4 w5 w6 w7 w8 w9 w10 w11 w12 w13 w14 w15 (nwM m w0 w1 w9 w14) K := by
  unfold rnds
  simp only [fr_eq]
/-- One block: the rounds, and the old state added. -/
noncomputable def blkM {α : Type} (m u : Nat) (ks : List Nat) (a b c d e f g h w0 w1 w2 w3 w4 w5 w6 w7 w8 w9 w10 w11 w12 w13 w14 w15 : Nat) (K : Nat → Nat → Nat → Nat → Nat → Nat → Nat → Nat → α) : α :=
  rnds m u ks a b c d e f g h w0 w1 w2 w3 w4 w5 w6 w7 w8 w9 w10 w11 w12 w13 w14 w15 fun a' b' c' d' e' f' g' h' => fr (adM m a a') fun a'' => fr (adM m b b') fun b'' => fr (adM m c c') fun c'' => fr (adM m d d') fun d'' => fr (adM m e e') fun e'' => fr (adM m f f') fun f'' => fr (adM m g g') fun g'' => fr (adM m h h') fun h'' => K a'' b'' c'' d'' e'' f'' g'' h''


/- One lane. -/
theorem land_msk (x : Nat) (hx : x < 4294967296) : Nat.land x msk = x := by
  have : Nat.land x msk = x % 4294967296 := and_msk x
  omega
theorem and_bd (x y : Nat) (hx : x < 4294967296) : Nat.land x y < 4294967296 := Nat.lt_of_le_of_lt Nat.and_le_left hx
theorem xor_bd (x y : Nat) (hx : x < 4294967296) (hy : y < 4294967296) : Nat.xor x y < 4294967296 := Nat.xor_lt_two_pow (n := 32) hx hy
theorem rotM_bd (x k : Nat) : rotM msk x k < 4294967296 := and_lt _
theorem sg_nat (x a b c : Nat) (hx : x < 4294967296) (ha : a ≤ 32) (hb : b ≤ 32) (hc : c ≤ 32) :
    bits .xor .u32 (bits .xor .u32 (rot (x : Int) a) (rot (x : Int) b)) (rot (x : Int) c) = ((sgM msk x a b c : Nat) : Int) ∧ sgM msk x a b c < 4294967296 := by
  rw [rot_nat x a hx ha, rot_nat x b hx hb, rot_nat x c hx hc, xor_nat _ _ (rotM_bd x a) (rotM_bd x b), xor_nat _ _ (xor_bd _ _ (rotM_bd x a) (rotM_bd x b)) (rotM_bd x c)]
  exact ⟨rfl, xor_bd _ _ (xor_bd _ _ (rotM_bd x a) (rotM_bd x b)) (rotM_bd x c)⟩
theorem sl_nat (x a b c : Nat) (C : Int) (hC : C = ((2 ^ c : Nat) : Int)) (hx : x < 4294967296) (ha : a ≤ 32) (hb : b ≤ 32) :
    bits .xor .u32 (bits .xor .u32 (rot (x : Int) a) (rot (x : Int) b)) ((x : Int) / C) = ((slM msk x a b c : Nat) : Int) ∧ slM msk x a b c < 4294967296 := by
  have hd : x / 2 ^ c < 4294967296 := Nat.lt_of_le_of_lt (Nat.div_le_self _ _) hx
  have e : Nat.land (Nat.shiftRight x c) msk = x / 2 ^ c := by
    have : Nat.shiftRight x c = x / 2 ^ c := Nat.shiftRight_eq_div_pow x c
    rw [this]; exact land_msk _ hd
  have e2 : (x : Int) / C = ((x / 2 ^ c : Nat) : Int) := by rw [hC]; simp
  rw [rot_nat x a hx ha, rot_nat x b hx hb, e2, xor_nat _ _ (rotM_bd x a) (rotM_bd x b), xor_nat _ _ (xor_bd _ _ (rotM_bd x a) (rotM_bd x b)) hd]
  unfold slM
  rw [e]
  exact ⟨rfl, xor_bd _ _ (xor_bd _ _ (rotM_bd x a) (rotM_bd x b)) hd⟩
theorem land_mod (x : Nat) : ((Nat.land x msk : Nat) : Int) = (x : Int) % 4294967296 := by
  have : Nat.land x msk = x % 4294967296 := and_msk x
  rw [this]; simp
/-- A function of Int that holds words. -/
def Wd (f : Nat → Int) : Prop := ∀ j, 0 ≤ f j ∧ f j < 4294967296
def toN (f : Nat → Int) (j : Nat) : Nat := (f j).toNat
theorem Wd.eq {f : Nat → Int} (h : Wd f) (j : Nat) : f j = ((toN f j : Nat) : Int) ∧ toN f j < 4294967296 := by
  have := h j
  unfold toN
  omega
theorem stp_nat {f : Nat → Int} (h : Wd f) (t : Nat) : stp f t = ((nwM msk (toN f (t - 16)) (toN f (t - 15)) (toN f (t - 7)) (toN f (t - 2)) : Nat) : Int) := by
  obtain ⟨e0, b0⟩ := h.eq (t - 16)
  obtain ⟨e1, b1⟩ := h.eq (t - 15)
  obtain ⟨e9, b9⟩ := h.eq (t - 7)
  obtain ⟨e14, b14⟩ := h.eq (t - 2)
  unfold stp
  rw [e0, e1, e9, e14]
  rw [(sl_nat _ 17 19 10 1024 rfl b14 (by decide) (by decide)).1, (sl_nat _ 7 18 3 8 rfl b1 (by decide) (by decide)).1]
  unfold nwM
  rw [land_mod]
  rfl
theorem rT1_nat {f : Nat → Int} (h : Wd f) (k w : Nat) : rT1 f (k : Int) (w : Int) = ((t1M msk (toN f 4) (toN f 5) (toN f 6) (toN f 7) k w : Nat) : Int) := by
  obtain ⟨e4, b4⟩ := h.eq 4
  obtain ⟨e5, b5⟩ := h.eq 5
  obtain ⟨e6, b6⟩ := h.eq 6
  obtain ⟨e7, b7⟩ := h.eq 7
  unfold rT1
  rw [e4, e5, e6, e7, show IntKind.u32.max = ((msk : Nat) : Int) from by decide]
  rw [(sg_nat _ 6 11 25 b4 (by decide) (by decide) (by decide)).1, and_nat _ _ b4 b5, xor_nat _ _ (by decide) b4, and_nat _ _ (xor_bd _ _ (by decide) b4) b6, xor_nat _ _ (and_bd _ _ b4) (and_bd _ _ (xor_bd _ _ (by decide) b4))]
  unfold t1M
  rw [land_mod]
  rfl
theorem rT2_nat {f : Nat → Int} (h : Wd f) : rT2 f = ((t2M msk (toN f 0) (toN f 1) (toN f 2) : Nat) : Int) := by
  obtain ⟨e0, b0⟩ := h.eq 0
  obtain ⟨e1, b1⟩ := h.eq 1
  obtain ⟨e2, b2⟩ := h.eq 2
  unfold rT2
  rw [e0, e1, e2]
  rw [(sg_nat _ 2 13 22 b0 (by decide) (by decide) (by decide)).1, and_nat _ _ b0 b1, and_nat _ _ b0 b2, and_nat _ _ b1 b2, xor_nat _ _ (and_bd _ _ b0) (and_bd _ _ b0), xor_nat _ _ (xor_bd _ _ (and_bd _ _ b0) (and_bd _ _ b0)) (and_bd _ _ b1)]
  unfold t2M
  rw [land_mod]
  rfl
theorem ad_nat (x y : Nat) : ((x : Int) + (y : Int)) % 4294967296 = ((adM msk x y : Nat) : Int) := by
  unfold adM
  rw [land_mod]
  rfl
theorem mod_bd (x : Int) : 0 ≤ x % 4294967296 ∧ x % 4294967296 < 4294967296 := by omega
theorem bits_bd (o : BinOp) (x y : Int) : (0 ≤ bits .or .u32 x y ∧ bits .or .u32 x y < 4294967296) := by
  unfold bits
  rw [IntKind.wrap_u32]
  exact mod_bd _
theorem wds_bd (b : ByteArray) (t : Nat) : Wd (wds b t) := by
  intro j
  unfold wds
  split
  · exact bits_bd .or _ _
  · omega
theorem sched_bd (b : ByteArray) : ∀ k, Wd (sched b k)
  | 0 => wds_bd b 16
  | k + 1 => by
    intro j
    show 0 ≤ (if j = 16 + k then stp (sched b k) (16 + k) else sched b k j) ∧ (if j = 16 + k then stp (sched b k) (16 + k) else sched b k j) < 4294967296
    split
    · exact mod_bd _
    · exact sched_bd b k j
/-- The schedule without an end. -/
def Wx (b : ByteArray) (j : Nat) : Int := sched b (j - 15) j
theorem sched_low (b : ByteArray) (j : Nat) : ∀ k, j < 16 + k → sched b k j = Wx b j
  | 0, h => by
    show _ = sched b (j - 15) j
    rw [show j - 15 = 0 by omega]
  | k + 1, h => by
    by_cases e : j = 16 + k
    · subst e
      show _ = sched b (16 + k - 15) (16 + k)
      rw [show 16 + k - 15 = k + 1 by omega]
    · have : sched b (k + 1) j = sched b k j := if_neg e
      rw [this]
      exact sched_low b j k (by omega)
theorem Wx_bd (b : ByteArray) : Wd (Wx b) := fun j => sched_bd b _ j
theorem Wx_low (b : ByteArray) (j : Nat) (h : j < 16) : Wx b j = wordAt b j := by
  rw [← sched_low b j 0 (by omega)]
  exact if_pos h
theorem Wx_step (b : ByteArray) (t : Nat) : toN (Wx b) (t + 16) = nwM msk (toN (Wx b) t) (toN (Wx b) (t + 1)) (toN (Wx b) (t + 9)) (toN (Wx b) (t + 14)) := by
  have e : Wx b (t + 16) = stp (sched b t) (16 + t) := by
    rw [← sched_low b (t + 16) (t + 1) (by omega)]
    show (if t + 16 = 16 + t then _ else _) = _
    rw [if_pos (by omega)]
  have e2 : toN (Wx b) (t + 16) = (stp (sched b t) (16 + t)).toNat := by unfold toN; rw [e]
  rw [e2, stp_nat (sched_bd b t)]
  have l : ∀ j, j < 16 + t → toN (sched b t) j = toN (Wx b) j := fun j h => by unfold toN; rw [sched_low b j t h]
  rw [l _ (by omega), l _ (by omega), l _ (by omega), l _ (by omega)]
  rw [show 16 + t - 16 = t by omega, show 16 + t - 15 = t + 1 by omega, show 16 + t - 7 = t + 9 by omega, show 16 + t - 2 = t + 14 by omega]
  exact Int.toNat_natCast _
theorem rndF_bd {f : Nat → Int} (h : Wd f) (k w : Int) : Wd (rndF f k w) := by
  intro j
  match j with
  | 0 => exact mod_bd _
  | 1 => exact h 0
  | 2 => exact h 1
  | 3 => exact h 2
  | 4 => exact mod_bd _
  | 5 => exact h 4
  | 6 => exact h 5
  | _ + 7 => exact h 6
theorem rst_bd {K W v : Nat → Int} (hv : Wd v) : ∀ t, Wd (rst K W v t)
  | 0 => hv
  | t + 1 => rndF_bd (rst_bd hv t) _ _
theorem rst_congr {K W W' v : Nat → Int} {n : Nat} (h : ∀ j, j < n → W j = W' j) : ∀ t, t ≤ n → rst K W v t = rst K W' v t
  | 0, _ => rfl
  | t + 1, ht => by
    show rndF (rst K W v t) _ _ = rndF (rst K W' v t) _ _
    rw [rst_congr h t (by omega), h t (by omega)]
/-- A round of one lane. -/
theorem rnd_nat {K W v : Nat → Int} (hK : Wd K) (hW : Wd W) (hv : Wd v) (t : Nat) :
    let s := toN (rst K W v t)
    let r := toN (rst K W v (t + 1))
    r 0 = adM msk (t1M msk (s 4) (s 5) (s 6) (s 7) (toN K t) (toN W t)) (t2M msk (s 0) (s 1) (s 2)) ∧ r 1 = s 0 ∧ r 2 = s 1 ∧ r 3 = s 2 ∧
      r 4 = adM msk (s 3) (t1M msk (s 4) (s 5) (s 6) (s 7) (toN K t) (toN W t)) ∧ r 5 = s 4 ∧ r 6 = s 5 ∧ r 7 = s 6 := by
  have h := rst_bd (K := K) (W := W) hv t
  have ek := (hK.eq t).1
  have ew := (hW.eq t).1
  have e1 : rT1 (rst K W v t) (K t) (W t) = ((t1M msk (toN (rst K W v t) 4) (toN (rst K W v t) 5) (toN (rst K W v t) 6) (toN (rst K W v t) 7) (toN K t) (toN W t) : Nat) : Int) := by
    have := rT1_nat h (toN K t) (toN W t)
    rwa [← ek, ← ew] at this
  refine ⟨?_, rfl, rfl, rfl, ?_, rfl, rfl, rfl⟩
  · show ((rT1 (rst K W v t) (K t) (W t) + rT2 (rst K W v t)) % 4294967296).toNat = _
    rw [e1, rT2_nat h, ad_nat]
    exact Int.toNat_natCast _
  · show ((rst K W v t 3 + rT1 (rst K W v t) (K t) (W t)) % 4294967296).toNat = _
    rw [e1, (h.eq 3).1, ad_nat]
    exact Int.toNat_natCast _


/- All lanes. -/
theorem PB.ext {n X : Nat} {f g : Nat → Nat} {C : Nat} (h : PB n X f C) (e : ∀ i, f i = g i) : PB n X g C := by
  have : f = g := funext e
  rw [← this]; exact h
set_option maxHeartbeats 1000000 in
theorem rnds_ok {α : Type} (n : Nat) (K : Nat → Int) (B : Nat → ByteArray) (v : Nat → Nat → Int) (hK : Wd K) (hv : ∀ i, Wd (v i)) (Q : Nat → Nat → Nat → Nat → Nat → Nat → Nat → Nat → α) : ∀ (ks : List Nat) (t : Nat), (∀ j, j < ks.length → ks.getD j 0 = toN K (t + j)) →
    ∀ (a b c d e f g h w0 w1 w2 w3 w4 w5 w6 w7 w8 w9 w10 w11 w12 w13 w14 w15 : Nat), PW n a (fun i => toN (rst K (Wx (B i)) (v i) t) 0) → PW n b (fun i => toN (rst K (Wx (B i)) (v i) t) 1) → PW n c (fun i => toN (rst K (Wx (B i)) (v i) t) 2) → PW n d (fun i => toN (rst K (Wx (B i)) (v i) t) 3) → PW n e (fun i => toN (rst K (Wx (B i)) (v i) t) 4) → PW n f (fun i => toN (rst K (Wx (B i)) (v i) t) 5) → PW n g (fun i => toN (rst K (Wx (B i)) (v i) t) 6) → PW n h (fun i => toN (rst K (Wx (B i)) (v i) t) 7) → PW n w0 (fun i => toN (Wx (B i)) (t + 0)) → PW n w1 (fun i => toN (Wx (B i)) (t + 1)) → PW n w2 (fun i => toN (Wx (B i)) (t + 2)) → PW n w3 (fun i => toN (Wx (B i)) (t + 3)) → PW n w4 (fun i => toN (Wx (B i)) (t + 4)) → PW n w5 (fun i => toN (Wx (B i)) (t + 5)) → PW n w6 (fun i => toN (Wx (B i)) (t + 6)) → PW n w7 (fun i => toN (Wx (B i)) (t + 7)) → PW n w8 (fun i => toN (Wx (B i)) (t + 8)) → PW n w9 (fun i => toN (Wx (B i)) (t + 9)) → PW n w10 (fun i => toN (Wx (B i)) (t + 10)) → PW n w11 (fun i => toN (Wx (B i)) (t + 11)) → PW n w12 (fun i => toN (Wx (B i)) (t + 12)) → PW n w13 (fun i => toN (Wx (B i)) (t + 13)) → PW n w14 (fun i => toN (Wx (B i)) (t + 14)) → PW n w15 (fun i => toN (Wx (B i)) (t + 15)) →
      ∃ X : Nat → Nat, rnds (mk n) (pk n fun _ => 1) ks a b c d e f g h w0 w1 w2 w3 w4 w5 w6 w7 w8 w9 w10 w11 w12 w13 w14 w15 Q = Q (X 0) (X 1) (X 2) (X 3) (X 4) (X 5) (X 6) (X 7) ∧ ∀ j, j < 8 → PW n (X j) (fun i => toN (rst K (Wx (B i)) (v i) (t + ks.length)) j)
  | [], t, _, a, b, c, d, e, f, g, h, w0, w1, w2, w3, w4, w5, w6, w7, w8, w9, w10, w11, w12, w13, w14, w15, ha, hb, hc, hd, he, hf, hg, hh, hw0, hw1, hw2, hw3, hw4, hw5, hw6, hw7, hw8, hw9, hw10, hw11, hw12, hw13, hw14, hw15 => by
    refine ⟨fun j => [a, b, c, d, e, f, g, h].getD j 0, rfl, fun j hj => ?_⟩
    have : j = 0 ∨ j = 1 ∨ j = 2 ∨ j = 3 ∨ j = 4 ∨ j = 5 ∨ j = 6 ∨ j = 7 := by omega
    rcases this with rfl | rfl | rfl | rfl | rfl | rfl | rfl | rfl <;> assumption
  | k :: ks, t, hks, a, b, c, d, e, f, g, h, w0, w1, w2, w3, w4, w5, w6, w7, w8, w9, w10, w11, w12, w13, w14, w15, ha, hb, hc, hd, he, hf, hg, hh, hw0, hw1, hw2, hw3, hw4, hw5, hw6, hw7, hw8, hw9, hw10, hw11, hw12, hw13, hw14, hw15 => by
    have hk := hks 0 (by simp)
    change k = toN K t at hk
    have hkw : PW n (Nat.mul k (pk n fun _ => 1)) (fun _ => toN K t) := by rw [hk]; exact pw_const _ (hK.eq t).2
    have ht1 := PB.t1 he hf hg hh hkw hw0
    have ht2 := PB.t2 ha hb hc
    have hA := ht1.ad ht2
    have hE := hd.ad ht1
    have hN := PB.nw hw0 hw1 hw9 hw14
    have r := fun i => rnd_nat hK (Wx_bd (B i)) (hv i) t
    rw [rnds_cons]
    have := rnds_ok n K B v hK hv Q ks (t + 1) (fun j hj => by
      have := hks (j + 1) (by simp; omega)
      rw [show t + 1 + j = t + (j + 1) by omega]
      exact this) _ _ _ _ _ _ _ _ _ _ _ _ _ _ _ _ _ _ _ _ _ _ _ _
      (hA.ext fun i => (r i).1.symm) (ha.ext fun i => (r i).2.1.symm) (hb.ext fun i => (r i).2.2.1.symm) (hc.ext fun i => (r i).2.2.2.1.symm)
      (hE.ext fun i => (r i).2.2.2.2.1.symm) (he.ext fun i => (r i).2.2.2.2.2.1.symm) (hf.ext fun i => (r i).2.2.2.2.2.2.1.symm) (hg.ext fun i => (r i).2.2.2.2.2.2.2.symm)
      (hw1.ext fun i => by rw [show t + 1 + 0 = t + 1 by omega]) (hw2.ext fun i => by rw [show t + 1 + 1 = t + 2 by omega]) (hw3.ext fun i => by rw [show t + 1 + 2 = t + 3 by omega]) (hw4.ext fun i => by rw [show t + 1 + 3 = t + 4 by omega]) (hw5.ext fun i => by rw [show t + 1 + 4 = t + 5 by omega]) (hw6.ext fun i => by rw [show t + 1 + 5 = t + 6 by omega]) (hw7.ext fun i => by rw [show t + 1 + 6 = t + 7 by omega]) (hw8.ext fun i => by rw [show t + 1 + 7 = t + 8 by omega]) (hw9.ext fun i => by rw [show t + 1 + 8 = t + 9 by omega]) (hw10.ext fun i => by rw [show t + 1 + 9 = t + 10 by omega]) (hw11.ext fun i => by rw [show t + 1 + 10 = t + 11 by omega]) (hw12.ext fun i => by rw [show t + 1 + 11 = t + 12 by omega]) (hw13.ext fun i => by rw [show t + 1 + 12 = t + 13 by omega]) (hw14.ext fun i => by rw [show t + 1 + 13 = t + 14 by omega]) (hw15.ext fun i => by rw [show t + 1 + 14 = t + 15 by omega]) (hN.ext fun i => by rw [show t + 1 + 15 = t + 16 by omega]; exact (Wx_step (B i) t).symm)
    obtain ⟨X, h1, h2⟩ := this
    refine ⟨X, h1, fun j hj => ?_⟩
    have := h2 j hj
    rw [show t + 1 + ks.length = t + (k :: ks).length by simp; omega] at this
    exact this


/-- So do the lanes hold the state behind a block. -/
theorem blk_ok {α : Type} (n : Nat) (K : Nat → Int) (B : Nat → ByteArray) (v : Nat → Nat → Int) (hK : Wd K) (hv : ∀ i, Wd (v i)) (Q : Nat → Nat → Nat → Nat → Nat → Nat → Nat → Nat → α) (ks : List Nat) (hl : ks.length = 64) (hks : ∀ j, j < 64 → ks.getD j 0 = toN K j)
    (a b c d e f g h w0 w1 w2 w3 w4 w5 w6 w7 w8 w9 w10 w11 w12 w13 w14 w15 : Nat) (ha : PW n a (fun i => toN (v i) 0)) (hb : PW n b (fun i => toN (v i) 1)) (hc : PW n c (fun i => toN (v i) 2)) (hd : PW n d (fun i => toN (v i) 3)) (he : PW n e (fun i => toN (v i) 4)) (hf : PW n f (fun i => toN (v i) 5)) (hg : PW n g (fun i => toN (v i) 6)) (hh : PW n h (fun i => toN (v i) 7)) (hw0 : PW n w0 (fun i => toN (wordAt (B i)) 0)) (hw1 : PW n w1 (fun i => toN (wordAt (B i)) 1)) (hw2 : PW n w2 (fun i => toN (wordAt (B i)) 2)) (hw3 : PW n w3 (fun i => toN (wordAt (B i)) 3)) (hw4 : PW n w4 (fun i => toN (wordAt (B i)) 4)) (hw5 : PW n w5 (fun i => toN (wordAt (B i)) 5)) (hw6 : PW n w6 (fun i => toN (wordAt (B i)) 6)) (hw7 : PW n w7 (fun i => toN (wordAt (B i)) 7)) (hw8 : PW n w8 (fun i => toN (wordAt (B i)) 8)) (hw9 : PW n w9 (fun i => toN (wordAt (B i)) 9)) (hw10 : PW n w10 (fun i => toN (wordAt (B i)) 10)) (hw11 : PW n w11 (fun i => toN (wordAt (B i)) 11)) (hw12 : PW n w12 (fun i => toN (wordAt (B i)) 12)) (hw13 : PW n w13 (fun i => toN (wordAt (B i)) 13)) (hw14 : PW n w14 (fun i => toN (wordAt (B i)) 14)) (hw15 : PW n w15 (fun i => toN (wordAt (B i)) 15)) :
    ∃ X : Nat → Nat, blkM (mk n) (pk n fun _ => 1) ks a b c d e f g h w0 w1 w2 w3 w4 w5 w6 w7 w8 w9 w10 w11 w12 w13 w14 w15 Q = Q (X 0) (X 1) (X 2) (X 3) (X 4) (X 5) (X 6) (X 7) ∧ ∀ j, j < 8 → PW n (X j) (fun i => toN (compress K (v i) (B i)) j) := by
  have w0' : ∀ (j : Nat) (x : Nat), j < 16 → PW n x (fun i => toN (wordAt (B i)) j) → PW n x (fun i => toN (Wx (B i)) (0 + j)) := fun j x hj h => h.ext fun i => by
    unfold toN; rw [Nat.zero_add, Wx_low _ _ hj]
  obtain ⟨X, h1, h2⟩ := rnds_ok n K B v hK hv (fun a' b' c' d' e' f' g' h' => fr (adM (mk n) a a') fun a'' => fr (adM (mk n) b b') fun b'' => fr (adM (mk n) c c') fun c'' => fr (adM (mk n) d d') fun d'' => fr (adM (mk n) e e') fun e'' => fr (adM (mk n) f f') fun f'' => fr (adM (mk n) g g') fun g'' => fr (adM (mk n) h h') fun h'' => Q a'' b'' c'' d'' e'' f'' g'' h'') ks 0 (fun j hj => by rw [Nat.zero_add]; exact hks j (by omega)) a b c d e f g h w0 w1 w2 w3 w4 w5 w6 w7 w8 w9 w10 w11 w12 w13 w14 w15 ha hb hc hd he hf hg hh (w0' 0 _ (by decide) hw0) (w0' 1 _ (by decide) hw1) (w0' 2 _ (by decide) hw2) (w0' 3 _ (by decide) hw3) (w0' 4 _ (by decide) hw4) (w0' 5 _ (by decide) hw5) (w0' 6 _ (by decide) hw6) (w0' 7 _ (by decide) hw7) (w0' 8 _ (by decide) hw8) (w0' 9 _ (by decide) hw9) (w0' 10 _ (by decide) hw10) (w0' 11 _ (by decide) hw11) (w0' 12 _ (by decide) hw12) (w0' 13 _ (by decide) hw13) (w0' 14 _ (by decide) hw14) (w0' 15 _ (by decide) hw15)
  refine ⟨fun j => adM (mk n) ([a, b, c, d, e, f, g, h].getD j 0) (X j), ?_, fun j hj => ?_⟩
  · unfold blkM
    rw [h1]
    simp only [fr_eq]
    rfl
  · have h3 := h2 j hj
    rw [hl, Nat.zero_add] at h3
    have hin : PW n ([a, b, c, d, e, f, g, h].getD j 0) (fun i => toN (v i) j) := by
      have : j = 0 ∨ j = 1 ∨ j = 2 ∨ j = 3 ∨ j = 4 ∨ j = 5 ∨ j = 6 ∨ j = 7 := by omega
      rcases this with rfl | rfl | rfl | rfl | rfl | rfl | rfl | rfl <;> assumption
    refine (hin.ad h3).ext fun i => ?_
    have hb := rst_bd (K := K) (W := Wx (B i)) (hv i) 64
    have e : compress K (v i) (B i) j = (v i j + rst K (Wx (B i)) (v i) 64 j) % 4294967296 := by
      unfold compress
      rw [rst_congr (n := 64) (fun j hj => sched_low (B i) j 48 (by omega)) 64 (Nat.le_refl _)]
      exact if_pos hj
    show _ = (compress K (v i) (B i) j).toNat
    rw [e, ((hv i).eq j).1, (hb.eq j).1, ad_nat]
    exact (Int.toNat_natCast _).symm
end Go.Proofs.YtjfphobfikadlaaGreatDoor.Lane
namespace Go.Proofs.YtjfphobfikadlaaGreatDoor
open Go.RowKit Num

/-- The numbers that follow from a seed. -/
def fillN (p s : Nat) : Nat → Nat
  | 0 => s
  | i + 1 => (fillN p s i * 7 + 3 * i + 5) % p
def fillL (p s n : Nat) : List Int := (List.range n).map fun i => ((fillN p s (i + 1) : Nat) : Int)
theorem fillL_len (p s n : Nat) : (fillL p s n).length = n := by simp [fillL]
theorem fillL_succ (p s n : Nat) : fillL p s (n + 1) = fillL p s n ++ [((fillN p s (n + 1) : Nat) : Int)] := by
  unfold fillL; rw [List.range_succ, List.map_append]; rfl
theorem fillN_lt (p s : Nat) (h : 1 ≤ p) (hs : s < p) : ∀ i, fillN p s i < p
  | 0 => hs
  | _ + 1 => Nat.mod_lt _ (by omega)
theorem fillL_in (p s n : Nat) (h : 1 ≤ p) : InF p (fillL p s n) := by
  intro k hk
  rw [fillL_len] at hk
  have e : (fillL p s n).getD k 0 = ((fillN p s (k + 1) : Nat) : Int) := by
    unfold fillL; rw [List.getD_eq_getElem?_getD, List.getElem?_map, List.getElem?_range hk]; rfl
  rw [e]
  have : fillN p s (k + 1) < p := Nat.mod_lt _ (by omega)
  omega
set_option maxRecDepth 100000 in
set_option maxHeartbeats 1000000 in
theorem y_Fill (p n : Nat) (seed : Int) (w : World) (h1 : 1 ≤ p) (h2 : p ≤ 1073741824) (hn : n ≤ 100000) :
    Calls Tryz.prog 22 #[.int .i64 (p : Int), .int .i64 seed, .int .i64 (n : Int)] w (IntsPost (fillL p (seed % (p : Int)).toNat n) w) := by
  obtain ⟨i0, hi, hz0, hz1, hz2⟩ := info_parts infoI
  obtain ⟨s, hs⟩ : ∃ s, (seed % (p : Int)).toNat = s := ⟨_, rfl⟩
  have hsl : s < p := by
    have := Int.emod_lt_of_pos seed (show (0 : Int) < p by omega)
    have := Int.emod_nonneg seed (show (p : Int) ≠ 0 by omega)
    omega
  have hse : seed % (p : Int) = (s : Int) := by
    have := Int.emod_nonneg seed (show (p : Int) ≠ 0 by omega)
    omega
  rw [hs]
  have hm := fun W => k_Mod seed p W (by omega) (by omega)
  rw [hse] at hm
  have HM := Lib.hid hm
  clear hs hse hm
  go_enter Tryz.func22, Tryz.ntmps22
  go_wp2_with fail
  refine (HM.out _).mono ?_
  rintro e w' ⟨rfl, rfl⟩
  go_wp2_with fail
  go_loopw [7, 8, 9] (fun o x t wr => ∃ k : Nat, k ≤ n ∧ t = .int .i64 (k : Int) ∧ x = .int .i64 ((fillN p s k : Nat) : Int) ∧ wr.ownsRow w.heap.size 3 1 o k ((fillL p s k).map (Value.int .i64)) ∧ Below w.heap.size w wr) (fun _ _ t _ => n - (intOf t).toNat)
  case atStart => exact ⟨0, by omega, rfl, rfl, World.ownsRow_nil _ _ _ _, Below.refl _ _⟩
  case round =>
    obtain ⟨k, hk, rfl, rfl, hown, hbl⟩ := hrel
    have hsz := hbl.size
    by_cases hlt : k < n
    · have qk : (k : Int) < (n : Int) := by omega
      have hx1 : fillN p s k < p := fillN_lt p s (by omega) hsl k
      have hx2 : fillN p s (k + 1) < p := fillN_lt p s (by omega) hsl (k + 1)
      have hnx : ((fillN p s k : Nat) * 7 + 3 * (k : Int) + 5).tmod (p : Int) = ((fillN p s (k + 1) : Nat) : Int) := by
        rw [Int.tmod_eq_emod_of_nonneg (by omega)]
        show _ = (((fillN p s k * 7 + 3 * k + 5) % p : Nat) : Int)
        rw [Int.natCast_emod]; rfl
      have hst := fillL_succ p s k
      obtain ⟨x, hx⟩ : ∃ x, fillN p s k = x := ⟨_, rfl⟩
      obtain ⟨y, hy⟩ : ∃ y, fillN p s (k + 1) = y := ⟨_, rfl⟩
      rw [hx] at hx1 hnx ⊢
      rw [hy] at hx2 hnx hst
      have HY := Lib.hid hy
      have HST := Lib.hid hst
      have HBL := Lib.hid hbl
      have p0 : ¬ (p : Int) = 0 := by omega
      clear hx hy hst hbl
      go_wp2_with (at_builtin; refine wpList_append_own _ rfl _ _ 24 rfl w.heap.size 3 i0 (.int .i64 0) 1 8 Tryz.underlying24 hi hz0 hz1 hz2 rfl (by decide) _ _ _ rfl (hown.alloc _) ⟨wr.heap.size, 0, none⟩ 1 1 [.int .i64 (y : Int)] rfl rfl (fun j u hj => by have := cell_one_new wr (.int .i64 (y : Int)) 3 j u hj; simpa using this) (ints_oneCell .i64 [_]) (by unfold maxLen; omega) (by omega) (by simp; omega) ?_)
      intro v' w2 hown' hgrow _
      have hg := grown_past hgrow
      have hown2 : w2.ownsRow w.heap.size 3 1 v' (k + 1) ((fillL p s (k + 1)).map (Value.int .i64)) := by rw [HST.out, List.map_append]; simpa using hown'
      have hul : ∀ g, u7.ownBlock = some g → w.heap.size ≤ g := fun g hg => (hown.lt g hg).1
      have HO2 := Lib.hid hown2
      have HB2 := Lib.hid (HBL.out.grown hg hsz hul)
      clear hown' hgrow hg hown2 hul hown
      go_wp2_with fail
      go_roundw
      case measure => simp [intOf]; omega
      case rel => exact ⟨k + 1, by omega, by go_num, by rw [HY.out], HO2.out, HB2.out⟩
    · have hkn : k = n := by omega
      subst hkn
      go_wp2_with fail
      go_ret
      exact ⟨_, rfl, IntsAt.of_own hown, hbl⟩
end Go.Proofs.YtjfphobfikadlaaGreatDoor
namespace Go.Proofs.YtjfphobfikadlaaGreatDoor.Lane
open Go.RowKit

/-- The number of some bytes, the first one the highest. -/
def hn (l : List UInt8) : Nat := l.foldl (fun a b => a * 256 + b.toNat) 0
theorem hn_app (l : List UInt8) : ∀ (m : List UInt8), hn (l ++ m) = hn l * 256 ^ m.length + hn m := by
  have key : ∀ (m : List UInt8) (a : Nat), m.foldl (fun a b => a * 256 + b.toNat) a = a * 256 ^ m.length + m.foldl (fun a b => a * 256 + b.toNat) 0 := by
    intro m
    induction m with
    | nil => intro a; simp
    | cons c m ih =>
      intro a
      simp only [List.foldl_cons, List.length_cons]
      rw [ih (a * 256 + c.toNat), ih (0 * 256 + c.toNat), Nat.pow_succ, Nat.add_mul, Nat.mul_assoc, Nat.mul_comm 256]
      simp only [Nat.zero_mul, Nat.zero_add]
      omega
  intro m
  unfold hn
  rw [List.foldl_append, key]
theorem hn_snoc (l : List UInt8) (c : Nat) (h : c < 256) : hn (l ++ [UInt8.ofNat c]) = hn l * 256 + c := by
  rw [hn_app]
  have : hn [UInt8.ofNat c] = c := by
    show 0 * 256 + (UInt8.ofNat c).toNat = c
    rw [UInt8.toNat_ofNat_of_lt' (by simpa using h)]
    omega
  rw [this]
  simp
theorem hn_lt (l : List UInt8) : hn l < 256 ^ l.length := by
  induction l with
  | nil => decide
  | cons c l ih =>
    have := hn_app [c] l
    rw [List.singleton_append] at this
    have h1 : hn [c] = c.toNat := by show 0 * 256 + c.toNat = _; omega
    have h2 := c.toNat_lt
    have h3 : (c.toNat + 1) * 256 ^ l.length ≤ 256 * 256 ^ l.length := Nat.mul_le_mul_right _ (by omega)
    rw [this, h1, List.length_cons, Nat.pow_succ, Nat.mul_comm (256 ^ l.length)]
    rw [Nat.add_mul] at h3
    omega
/-- The bytes of a number, group by group. -/
def pl : Nat → Nat → List UInt8
  | 0, _ => []
  | f + 1, u => if u < 128 then [UInt8.ofNat u] else UInt8.ofNat (u % 128 + 128) :: pl f (u / 128)
theorem vk_shift (u : Nat) : ∀ k, vk u (k + 1) = UInt8.ofNat (u % 128 + 128) :: vk (u / 128) k
  | 0 => by simp [vk]
  | k + 1 => by
    show vk u (k + 1) ++ [UInt8.ofNat (u / 128 ^ (k + 1) % 128 + 128)] = _ :: (vk (u / 128) k ++ [UInt8.ofNat (u / 128 / 128 ^ k % 128 + 128)])
    rw [vk_shift u k, Nat.pow_succ, Nat.mul_comm, ← Nat.div_div_eq_div_mul]
    rfl
theorem pl_eq : ∀ (f u : Nat), u < 128 ^ f → 1 ≤ f → vk u (rdN f u) ++ [UInt8.ofNat (u / 128 ^ rdN f u)] = pl f u
  | 0, _, _, h => by omega
  | f + 1, u, hu, _ => by
    unfold rdN pl
    by_cases h : u < 128
    · rw [if_pos h, if_pos h]; simp [vk]
    · rw [if_neg h, if_neg h, vk_shift]
      have hf : 1 ≤ f := by
        rcases f with _ | f
        · simp at hu; omega
        · omega
      rw [Nat.pow_succ, Nat.mul_comm, ← Nat.div_div_eq_div_mul, List.cons_append, pl_eq f (u / 128) (by rw [Nat.div_lt_iff_lt_mul (by decide)]; rw [Nat.pow_succ] at hu; exact hu) hf]
theorem putB_eq (n : Nat) (h : n < 4611686018427387904) : putB (n : Int) = pl 10 (2 * n) := by
  have e : zig (n : Int) = 2 * n := by unfold zig; rw [if_neg (by omega)]; omega
  unfold putB
  rw [e]
  exact pl_eq 10 (2 * n) (by omega) (by omega)
/-- The bytes of a number are laid behind a number. -/
noncomputable def pu {α : Type} (u m L : Nat) (K : Nat → Nat → α) : α :=
  Bool.rec
    (Bool.rec
      (Bool.rec
        (Bool.rec
          (fr (Nat.add (Nat.mul m 1099511627776) (Nat.add (Nat.mul (Nat.add (Nat.mod u 128) 128) 4294967296) (Nat.add (Nat.mul (Nat.add (Nat.mod (Nat.div u 128) 128) 128) 16777216) (Nat.add (Nat.mul (Nat.add (Nat.mod (Nat.div u 16384) 128) 128) 65536) (Nat.add (Nat.mul (Nat.add (Nat.mod (Nat.div u 2097152) 128) 128) 256) (Nat.div u 268435456)))))) fun m' => K m' (Nat.add L 5))
          (fr (Nat.add (Nat.mul m 4294967296) (Nat.add (Nat.mul (Nat.add (Nat.mod u 128) 128) 16777216) (Nat.add (Nat.mul (Nat.add (Nat.mod (Nat.div u 128) 128) 128) 65536) (Nat.add (Nat.mul (Nat.add (Nat.mod (Nat.div u 16384) 128) 128) 256) (Nat.div u 2097152))))) fun m' => K m' (Nat.add L 4))
          (Nat.ble u 268435455))
        (fr (Nat.add (Nat.mul m 16777216) (Nat.add (Nat.mul (Nat.add (Nat.mod u 128) 128) 65536) (Nat.add (Nat.mul (Nat.add (Nat.mod (Nat.div u 128) 128) 128) 256) (Nat.div u 16384)))) fun m' => K m' (Nat.add L 3))
        (Nat.ble u 2097151))
      (fr (Nat.add (Nat.mul m 65536) (Nat.add (Nat.mul (Nat.add (Nat.mod u 128) 128) 256) (Nat.div u 128))) fun m' => K m' (Nat.add L 2))
      (Nat.ble u 16383))
    (fr (Nat.add (Nat.mul m 256) u) fun m' => K m' (Nat.add L 1))
    (Nat.ble u 127)
theorem ble_t {a b : Nat} (h : a ≤ b) : Nat.ble a b = true := by rw [Nat.ble_eq]; exact h
theorem ble_f {a b : Nat} (h : ¬a ≤ b) : Nat.ble a b = false := by
  cases hc : Nat.ble a b with
  | false => rfl
  | true => rw [Nat.ble_eq] at hc; exact absurd hc h
theorem pl_lt (f u : Nat) (h : u < 128) : pl (f + 1) u = [UInt8.ofNat u] := if_pos h
theorem pl_ge (f u : Nat) (h : 128 ≤ u) : pl (f + 1) u = UInt8.ofNat (u % 128 + 128) :: pl f (u / 128) := if_neg (by omega)
theorem hn_cons (l m : List UInt8) (c : Nat) : hn (l ++ UInt8.ofNat c :: m) = hn ((l ++ [UInt8.ofNat c]) ++ m) := by simp
theorem nadd (a b : Nat) : Nat.add a b = a + b := rfl
theorem nmul (a b : Nat) : Nat.mul a b = a * b := rfl
theorem ndiv (a b : Nat) : Nat.div a b = a / b := rfl
theorem nmod (a b : Nat) : Nat.mod a b = a % b := rfl
theorem pu_eq {α : Type} (K : Nat → Nat → α) (u : Nat) (l : List UInt8) (hu : u < 34359738368) : pu u (hn l) l.length K = K (hn (l ++ pl 10 u)) (l ++ pl 10 u).length := by
  have kk : ∀ a b c d : Nat, a = b → c = d → K a c = K b d := fun _ _ _ _ h1 h2 => by rw [h1, h2]
  unfold pu
  simp only [fr_eq]
  by_cases h1 : u ≤ 127
  · rw [ble_t h1, pl_lt 9 u (by omega), hn_snoc _ _ (by omega), List.length_append]
    rfl
  rw [ble_f h1, pl_ge 9 u (by omega)]
  by_cases h2 : u ≤ 16383
  · rw [ble_t h2, pl_lt 8 _ (by omega), hn_cons, hn_snoc _ _ (by omega), hn_snoc _ _ (by omega), List.length_append]
    refine kk _ _ _ _ ?_ rfl
    simp only [nadd, nmul, ndiv, nmod]
    omega
  rw [ble_f h2, pl_ge 8 _ (by omega)]
  by_cases h3 : u ≤ 2097151
  · rw [ble_t h3, pl_lt 7 _ (by omega), hn_cons, hn_cons, hn_snoc _ _ (by omega), hn_snoc _ _ (by omega), hn_snoc _ _ (by omega), List.length_append]
    refine kk _ _ _ _ ?_ rfl
    simp only [nadd, nmul, ndiv, nmod]
    omega
  rw [ble_f h3, pl_ge 7 _ (by omega)]
  by_cases h4 : u ≤ 268435455
  · rw [ble_t h4, pl_lt 6 _ (by omega), hn_cons, hn_cons, hn_cons, hn_snoc _ _ (by omega), hn_snoc _ _ (by omega), hn_snoc _ _ (by omega), hn_snoc _ _ (by omega), List.length_append]
    refine kk _ _ _ _ ?_ rfl
    simp only [nadd, nmul, ndiv, nmod]
    omega
  rw [ble_f h4, pl_ge 6 _ (by omega), pl_lt 5 _ (by omega), hn_cons, hn_cons, hn_cons, hn_cons, hn_snoc _ _ (by omega), hn_snoc _ _ (by omega), hn_snoc _ _ (by omega), hn_snoc _ _ (by omega), hn_snoc _ _ (by omega), List.length_append]
  refine kk _ _ _ _ ?_ rfl
  simp only [nadd, nmul, ndiv, nmod]
  omega
end Go.Proofs.YtjfphobfikadlaaGreatDoor.Lane
namespace Go.Proofs.YtjfphobfikadlaaGreatDoor.Lane
open Go.RowKit

/-- What random numbers add to a value. -/
def sN (p s0 h : Nat) : Nat → Nat → Nat → Nat
  | 0, _, _ => 0
  | k + 1, c, hp => fillN p s0 (c + 1) * (hp * h) + sN p s0 h k (c + 1) (hp * h)
noncomputable def nv {α : Type} (p h k : Nat) : Nat → Nat → Nat → Nat → (Nat → Nat → Nat → α) → α :=
  Nat.rec (fun x c v _ K => K (Nat.mod v p) x c) (fun _ ih x c v hp K => fr (Nat.mod (Nat.add (Nat.add (Nat.mul x 7) (Nat.mul 3 c)) 5) p) fun x' => ih x' (Nat.add c 1) (Nat.add v (Nat.mul x' (Nat.mul hp h))) (Nat.mul hp h) K) k
theorem nv_eq {α : Type} (p s0 h : Nat) (K : Nat → Nat → Nat → α) : ∀ (k c v hp : Nat), nv p h k (fillN p s0 c) c v hp K = K ((v + sN p s0 h k c hp) % p) (fillN p s0 (c + k)) (c + k)
  | 0, c, v, hp => by
    unfold nv
    simp only [fr_eq]
    rfl
  | k + 1, c, v, hp => by
    have e : nv p h (k + 1) (fillN p s0 c) c v hp K = nv p h k (fillN p s0 (c + 1)) (c + 1) (v + fillN p s0 (c + 1) * (hp * h)) (hp * h) K := by
      unfold nv
      simp only [fr_eq]
      rfl
    rw [e, nv_eq p s0 h K k]
    show K ((v + _ + _) % p) _ _ = K ((v + (_ + _)) % p) _ _
    rw [Nat.add_assoc, show c + 1 + k = c + (k + 1) by omega]
/-- The values of a share, each with d added. -/
def vlN (p s0 h k d : Nat) : List Nat → Nat → List Nat
  | [], _ => []
  | s :: t, c => ((s + sN p s0 h k c 1) % p + d) % p :: vlN p s0 h k d t (c + k)
def bysN (l : List Nat) : List UInt8 := l.flatMap fun y => pl 10 (2 * y)
noncomputable def mv {α : Type} (p h k d : Nat) (sec : List Nat) : Nat → Nat → Nat → Nat → (Nat → Nat → α) → α :=
  List.rec (fun _ _ m L K => K m L) (fun s _ ih x c m L K => nv p h k x c s 1 fun v x' c' => fr c' fun c'' => fr (Nat.mul 2 (Nat.mod (Nat.add v d) p)) fun y => pu y m L fun m' L' => ih x' c'' m' L' K) sec
theorem mv_eq {α : Type} (p s0 h k d : Nat) (hp0 : 0 < p) (hp : p < 1073741824) (K : Nat → Nat → α) : ∀ (sec : List Nat) (c : Nat) (l : List UInt8), mv p h k d sec (fillN p s0 c) c (hn l) l.length K = K (hn (l ++ bysN (vlN p s0 h k d sec c))) (l ++ bysN (vlN p s0 h k d sec c)).length
  | [], c, l => by simp [bysN, vlN]; rfl
  | s :: t, c, l => by
    have e : mv p h k d (s :: t) (fillN p s0 c) c (hn l) l.length K = pu (2 * (((s + sN p s0 h k c 1) % p + d) % p)) (hn l) l.length fun m' L' => mv p h k d t (fillN p s0 (c + k)) (c + k) m' L' K := by
      show nv p h k (fillN p s0 c) c s 1 _ = _
      rw [nv_eq, fr_eq, fr_eq]
      rfl
    have hb : ((s + sN p s0 h k c 1) % p + d) % p < p := Nat.mod_lt _ hp0
    rw [e, pu_eq _ _ _ (by omega), mv_eq p s0 h k d hp0 hp K t]
    have e2 : l ++ bysN (vlN p s0 h k d (s :: t) c) = l ++ pl 10 (2 * (((s + sN p s0 h k c 1) % p + d) % p)) ++ bysN (vlN p s0 h k d t (c + k)) := by
      simp [bysN, vlN]
    rw [e2]
/-- The bytes of a share's mark. -/
def mbL (p s0 h k d : Nat) (sec : List Nat) : List UInt8 := pl 10 (2 * h) ++ pl 10 (2 * sec.length) ++ bysN (vlN p s0 h k d sec 0)
def FitsB (B n : Nat) : Prop := n + 9 ≤ 64 * B ∧ 64 * B < n + 73
instance (B n : Nat) : Decidable (FitsB B n) := by unfold FitsB; infer_instance
/-- The padded bytes' number; F if they are not just so many blocks. -/
noncomputable def pd {α : Type} (F : α) (B m L : Nat) (K : Nat → α) : α :=
  Bool.rec F (Bool.rec F (fr (Nat.add (Nat.mul (Nat.mul (Nat.add (Nat.mul m 256) 128) (Nat.pow 256 (Nat.sub (Nat.mul 64 B) (Nat.add L 9)))) 18446744073709551616) (Nat.mul 8 L)) K) (Nat.blt (Nat.mul 64 B) (Nat.add L 73))) (Nat.ble (Nat.add L 9) (Nat.mul 64 B))
noncomputable def msg {α : Type} (F : α) (p h k d B n : Nat) (sec : List Nat) (s0 : Nat) (K : Nat → α) : α :=
  pu (Nat.mul 2 h) 0 0 fun m L => pu (Nat.mul 2 n) m L fun m L => mv p h k d sec s0 0 m L fun m L => pd F B m L K
theorem repeat_hn (n : Nat) (l : List UInt8) : hn (l ++ Lib.repeatL [0] n) = hn l * 256 ^ n := by
  induction n with
  | zero => simp [Lib.repeatL]
  | succ n ih =>
    have h0 : hn (Lib.repeatL [0] (n + 1)) = 0 := by
      have : ∀ n, hn (Lib.repeatL [0] n) = 0 := by
        intro n
        induction n with
        | zero => rfl
        | succ n ih =>
          show hn ([0] ++ Lib.repeatL [0] n) = 0
          rw [hn_app, ih]; simp [hn]
      exact this _
    rw [hn_app, h0, repeatL_len]
    omega
theorem lenB_hn (len : Nat) : ∀ k, k ≤ 8 → hn (lenB len k) = len * 8 / 2 ^ (8 * (8 - k)) % 256 ^ k
  | 0, _ => by simp [lenB, hn, Nat.mod_one]
  | k + 1, hk => by
    show hn (lenB len k ++ [UInt8.ofNat (len * 8 / 2 ^ (8 * (7 - k)) % 256)]) = _
    rw [hn_snoc _ _ (by omega), lenB_hn len k (by omega)]
    have e : 2 ^ (8 * (8 - k)) = 2 ^ (8 * (7 - k)) * 256 := by
      rw [show (256 : Nat) = 2 ^ 8 from by decide, ← Nat.pow_add, show 8 * (7 - k) + 8 = 8 * (8 - k) by omega]
    rw [e, ← Nat.div_div_eq_div_mul, show 8 - (k + 1) = 7 - k by omega]
    generalize len * 8 / 2 ^ (8 * (7 - k)) = y
    rw [Nat.pow_succ, Nat.mul_comm (256 ^ k) 256, Nat.mod_mul]
    omega
theorem pad_hn (l : List UInt8) (n B : Nat) (hl : l.length = n) (hB : FitsB B n) (hn2 : n < 1000000) : hn (padL l n) = (hn l * 256 + 128) * 256 ^ (64 * B - (n + 9)) * 18446744073709551616 + 8 * n ∧ (padL l n).length = 64 * B := by
  obtain ⟨h1, h2⟩ := hB
  have hz : zerosN l.length = 64 * B - (n + 9) := by rw [hl]; unfold zerosN; omega
  constructor
  · unfold padL
    rw [hz, hn_app, repeat_hn, lenB_len]
    have h8 : hn (lenB n 8) = 8 * n := by
      rw [lenB_hn n 8 (by omega)]
      simp
      omega
    have h128 : hn (l ++ [128]) = hn l * 256 + 128 := hn_snoc l 128 (by omega)
    rw [h8, h128, show (256 : Nat) ^ 8 = 18446744073709551616 from by decide]
  · unfold padL
    simp only [List.length_append, List.length_singleton, repeatL_len, lenB_len, hz]
    omega
theorem pd_eq {α : Type} (F : α) (B : Nat) (K : Nat → α) (l : List UInt8) (hs : l.length < 1000000) : pd F B (hn l) l.length K = if FitsB B l.length then K (hn (padL l l.length)) else F := by
  unfold pd
  rw [fr_eq]
  by_cases h1 : l.length + 9 ≤ 64 * B
  · have b1 : Nat.ble (Nat.add l.length 9) (Nat.mul 64 B) = true := by rw [Nat.ble_eq]; exact h1
    rw [b1]
    by_cases h2 : 64 * B < l.length + 73
    · have b2 : Nat.blt (Nat.mul 64 B) (Nat.add l.length 73) = true := by rw [Nat.blt_eq]; exact h2
      rw [if_pos ⟨h1, h2⟩, (pad_hn l l.length B rfl ⟨h1, h2⟩ hs).1, b2]
      generalize hn l = x
      generalize l.length = y
      rfl
    · have b2 : Nat.blt (Nat.mul 64 B) (Nat.add l.length 73) = false := by
        cases hc : Nat.blt (Nat.mul 64 B) (Nat.add l.length 73) with
        | false => rfl
        | true => rw [Nat.blt_eq] at hc; exact absurd hc h2
      rw [if_neg (fun h => h2 h.2), b2]
  · have b1 : Nat.ble (Nat.add l.length 9) (Nat.mul 64 B) = false := by
      cases hc : Nat.ble (Nat.add l.length 9) (Nat.mul 64 B) with
      | false => rfl
      | true => rw [Nat.ble_eq] at hc; exact absurd hc h1
    rw [b1, if_neg (fun h => h1 h.1)]
theorem msg_eq {α : Type} (F : α) (p h k d B n : Nat) (sec : List Nat) (s0 : Nat) (K : Nat → α) (hp0 : 0 < p) (hp : p < 1073741824) (hh : h < 1000) (hn1 : sec.length = n) (hn2 : n < 1000000) (hs : (mbL p s0 h k d sec).length < 1000000) :
    msg F p h k d B n sec s0 K = if FitsB B (mbL p s0 h k d sec).length then K (hn (padL (mbL p s0 h k d sec) (mbL p s0 h k d sec).length)) else F := by
  subst hn1
  rw [← pd_eq F B K _ hs]
  unfold msg
  have e0 : ∀ (K : Nat → Nat → α), pu (Nat.mul 2 h) 0 0 K = K (hn (pl 10 (2 * h))) (pl 10 (2 * h)).length := fun K => pu_eq K (2 * h) [] (by omega)
  rw [e0]
  have e2 : ∀ (l : List UInt8) (K : Nat → Nat → α), pu (Nat.mul 2 sec.length) (hn l) l.length K = K (hn (l ++ pl 10 (2 * sec.length))) (l ++ pl 10 (2 * sec.length)).length := fun l K => pu_eq K (2 * sec.length) l (by omega)
  rw [e2]
  have e1 : ∀ (l : List UInt8) (K : Nat → Nat → α), mv p h k d sec s0 0 (hn l) l.length K = K (hn (l ++ bysN (vlN p s0 h k d sec 0))) (l ++ bysN (vlN p s0 h k d sec 0)).length := fun l K => mv_eq p s0 h k d hp0 hp K sec 0 l
  rw [e1]
  rfl
end Go.Proofs.YtjfphobfikadlaaGreatDoor.Lane
