/- Contracts of signatures. -/
import Derived.Test.YtmneokkdkgflkaaDoorCodInt
set_option linter.unusedVariables false
set_option linter.unusedSimpArgs false
namespace Go.Proofs.YtmneokkdkgflkaaDoor
open Go.RowKit Num

def chalS (r pub : Int) (text : ByteArray) : ByteArray := (((⟨#[]⟩ : ByteArray) ++ ⟨(putB r).toArray⟩) ++ ⟨(putB pub).toArray⟩) ++ text
/-- The challenge of a signature. -/
def chal (p : Nat) (r pub : Int) (text : ByteArray) : Int := numB (shaOf (chalS r pub text)) 7 % max ((p : Int) - 1) 1 + 1
theorem chal_bd (p : Nat) (r pub : Int) (text : ByteArray) (hp : 2 ≤ p) : 1 ≤ chal p r pub text ∧ chal p r pub text < p := by
  have e0 := Int.emod_nonneg (numB (shaOf (chalS r pub text)) 7) (show max ((p : Int) - 1) 1 ≠ 0 by omega)
  have e1 := Int.emod_lt_of_pos (numB (shaOf (chalS r pub text)) 7) (show 0 < max ((p : Int) - 1) 1 by omega)
  unfold chal; omega
def IntBelow (n : Int) (w : World) (e : Ending) (w' : World) : Prop := e = .returned (.int .i64 n) ∧ Below w.heap.size w w'
set_option maxHeartbeats 1000000 in
theorem h_challenge (p : Nat) (r pub : Int) (text : ByteArray) (w : World) (hp : 1 ≤ p) (hp2 : p ≤ 2147483648) (hr0 : 0 ≤ r) (hr1 : r < 2147483648) (hq0 : 0 ≤ pub) (hq1 : pub < 2147483648) (ht : text.size < 2147483648) :
    Calls Tryd.prog 64 #[.int .i64 (p : Int), .int .i64 r, .int .i64 pub, .string text] w (IntBelow (chal p r pub text) w) := by
  have l1 := putB_len r
  have l2 := putB_len pub
  have z1 : ((⟨#[]⟩ : ByteArray) ++ ⟨(putB r).toArray⟩).size = (putB r).length := by rw [ByteArray.size_append]; show 0 + (putB r).toArray.size = _; simp
  have z2 : (((⟨#[]⟩ : ByteArray) ++ ⟨(putB r).toArray⟩) ++ ⟨(putB pub).toArray⟩).size = (putB r).length + (putB pub).length := by rw [ByteArray.size_append, z1]; show _ + (putB pub).toArray.size = _; simp
  have z3 : (chalS r pub text).size = (putB r).length + (putB pub).length + text.size := by unfold chalS; rw [ByteArray.size_append, z2]
  have Z2 := Lib.hid z2
  have Z3 := Lib.hid z3
  have Z1 := Lib.hid z1
  clear z1 z2 z3
  go_enter Tryd.func64, Tryd.ntmps64
  go_wp2_with fail
  refine (c_PutInt _ r _ (by omega) (by omega) (by decide)).mono ?_
  rintro e w1 ⟨rfl, hb1⟩
  have s1 := hb1.size
  go_wp2_with fail
  refine (c_PutInt _ pub _ (by omega) (by omega) (by rw [Z1.out]; omega)).mono ?_
  rintro e w2 ⟨rfl, hb2⟩
  have s2 := hb2.size
  have zi : ((((⟨#[]⟩ : ByteArray) ++ ⟨(putB r).toArray⟩) ++ ⟨(putB pub).toArray⟩).size) ≤ 22 := by rw [Z2.out]; omega
  go_wp2_with fail
  refine (d_Element p (chalS r pub text) _ hp hp2 (by rw [Z3.out]; omega)).mono ?_
  rintro e w3 ⟨rfl, hb3⟩
  go_wp2_with fail
  go_ret
  exact ⟨rfl, (hb1.trans (hb2.mono s1)).trans (hb3.mono (by omega))⟩
set_option maxHeartbeats 1000000 in
theorem h_Public (p : Nat) (k : Int) (w : World) (h0 : 1 ≤ p) (h2 : p ≤ 1073741823) :
    Calls Tryd.prog 38 #[.int .i64 (p : Int), .int .i64 k] w (IntBelow (pw (2 * p + 1) 4 (k % p).toNat : Int) w) := by
  go_enter Tryd.func38, Tryd.ntmps38
  go_wp2_with fail
  refine (h_Power p 4 k _ h0 h2 (by omega)).mono ?_
  rintro e w1 ⟨rfl, hb1⟩
  go_wp2_with fail
  go_ret
  exact ⟨rfl, hb1⟩

/-- The answer of a signature. -/
def sigS (p : Nat) (key nonce : Nat) (text : ByteArray) : Nat :=
  (nonce + key * (chal p (pw (2 * p + 1) 4 nonce) (pw (2 * p + 1) 4 key) text).toNat % p) % p
def SignPost (p key nonce : Nat) (text : ByteArray) (w : World) (e : Ending) (w' : World) : Prop :=
  e = .returned (.tuple #[.agg #[.int .i64 (pw (2 * p + 1) 4 nonce : Int), .int .i64 (sigS p key nonce text : Int)], .int .i64 0]) ∧ Below w.heap.size w w'
theorem f_MulI (p a : Nat) (b : Int) (w : World) (h1 : 1 ≤ p) (h2 : p ≤ 2147483648) (ha : a < 2147483648) (hb0 : 0 ≤ b) (hb : b < 2147483648) :
    Calls Tryd.prog 66 #[.int .i64 (p : Int), .int .i64 (a : Int), .int .i64 b] w fun e w' => e = .returned (.int .i64 ((a * b.toNat % p : Nat) : Int)) ∧ w = w' := by
  obtain ⟨n, rfl⟩ := Int.eq_ofNat_of_zero_le hb0
  exact f_Mul p a n w h1 h2 ha (by omega)
set_option maxHeartbeats 1000000 in
set_option maxRecDepth 100000 in
theorem h_Sign (p key nonce : Nat) (text : ByteArray) (w : World) (hw : BasesOk w) (h : SPrm p) (k1 : 1 ≤ key) (k2 : key < p) (n1 : 1 ≤ nonce) (n2 : nonce < p) (ht : text.size < 2147483648) :
    Calls Tryd.prog 35 #[.int .i64 (p : Int), .int .i64 (key : Int), .int .i64 (nonce : Int), .string text] w (SignPost p key nonce text w) := by
  have h3 := h.2.2.1
  have h4 := h.2.2.2
  have pr := pw_lt (m := 2 * p + 1) (by omega) 4 nonce
  have pk := pw_lt (m := 2 * p + 1) (by omega) 4 key
  have cb := chal_bd p (pw (2 * p + 1) 4 nonce) (pw (2 * p + 1) 4 key) text (by omega)
  have en : ((nonce : Int) % (p : Int)).toNat = nonce := by rw [Int.emod_eq_of_lt (by omega) (by omega)]; rfl
  have ek : ((key : Int) % (p : Int)).toNat = key := by rw [Int.emod_eq_of_lt (by omega) (by omega)]; rfl
  have es : sigS p key nonce text = (nonce + key * (chal p (pw (2 * p + 1) 4 nonce) (pw (2 * p + 1) 4 key) text).toNat % p) % p := rfl
  have ES := Lib.hid es
  have HW := Lib.hid (hw.alloc (.cells #[.int .i64 0, .int .i64 0] 53))
  have EN := Lib.hid en
  have EK := Lib.hid ek
  have H := Lib.hid h
  clear es hw en ek h
  go_enter Tryd.func35, Tryd.ntmps35
  go_wp2_with fail
  refine (h_Modulus p _ HW.out H.out).mono ?_
  rintro e w1 ⟨rfl, rfl⟩
  go_wp2_with fail
  refine (h_Public p nonce _ (by omega) (by omega)).mono ?_
  rintro e w1 ⟨rfl, hb1⟩
  rw [EN.out]
  go_wp2_with fail
  refine (h_Public p key _ (by omega) (by omega)).mono ?_
  rintro e w2 ⟨rfl, hb2⟩
  rw [EK.out]
  go_wp2_with fail
  refine (h_challenge p _ _ text _ (by omega) (by omega) (by omega) (by omega) (by omega) (by omega) ht).mono ?_
  rintro e w3 ⟨rfl, hb3⟩
  have s1 := hb1.size
  have s2 := hb2.size
  have s3 := hb3.size
  have c0 : w3.cell? ⟨w.heap.size, 0, none⟩ = some (.int .i64 0) := by
    rw [hb3.cell (by simp at s1; show w.heap.size < _; omega), hb2.cell (by simp at s1; show w.heap.size < _; omega), hb1.cell (by simp)]
    rw [World.cell?_alloc_new]; rfl
  have c1 : w3.cell? ⟨w.heap.size, 1, none⟩ = some (.int .i64 0) := by
    rw [hb3.cell (by simp at s1; show w.heap.size < _; omega), hb2.cell (by simp at s1; show w.heap.size < _; omega), hb1.cell (by simp)]
    rw [World.cell?_alloc_new]; rfl
  have f0 : w3.frozen? ⟨w.heap.size, 0, none⟩ = false := by
    rw [hb3.frozen (by simp at s1; show w.heap.size < _; omega), hb2.frozen (by simp at s1; show w.heap.size < _; omega), hb1.frozen (by simp)]
    exact World.frozen?_alloc_new _ _ _ _
  have f1 : w3.frozen? ⟨w.heap.size, 1, none⟩ = false := by
    rw [hb3.frozen (by simp at s1; show w.heap.size < _; omega), hb2.frozen (by simp at s1; show w.heap.size < _; omega), hb1.frozen (by simp)]
    exact World.frozen?_alloc_new _ _ _ _
  have hbw : Below w.heap.size w w3 := ((((Below.refl _ _).alloc (Nat.le_refl _) _).trans (hb1.mono (by simp))).trans (hb2.mono (by simp at s1; omega))).trans (hb3.mono (by simp at s1; omega))
  have HBW := Lib.hid hbw
  clear hbw hb1 hb2 hb3
  obtain ⟨c, hc⟩ : ∃ c, chal p (pw (2 * p + 1) 4 nonce) (pw (2 * p + 1) 4 key) text = c := ⟨_, rfl⟩
  have ES2 := ES
  rw [hc] at cb ES2 ⊢
  clear ES hc
  go_wp2_with fail
  refine (f_MulI p key c _ (by omega) (by omega) (by omega) (by omega) (by omega)).mono ?_
  rintro e w4 ⟨rfl, rfl⟩
  have hm := Nat.mod_lt (key * c.toNat) (show 0 < p by omega)
  have es3 := ES2.out
  obtain ⟨d, hd⟩ : ∃ d, key * c.toNat % p = d := ⟨_, rfl⟩
  rw [hd] at hm es3 ⊢
  have ES3 := Lib.hid es3
  clear hd es3 ES2
  go_wp2_with fail
  refine (f_Add p nonce d _ (by omega) (by omega) (by omega) (by omega)).mono ?_
  rintro e w4 ⟨rfl, rfl⟩
  go_wp2_with fail
  refine bodyPost_ret (v := .tuple #[.agg #[.int .i64 (pw (2 * p + 1) 4 nonce : Int), .int .i64 (((nonce + d) % p : Nat) : Int)], .int .i64 0]) (by simp [results, Tryd.results35, go_sem, c0, c1]) rfl ⟨?_, ?_⟩
  · rw [ES3.out]
  · exact (HBW.out.setCell (p := ⟨w.heap.size, 0, none⟩) (Nat.le_refl _) _).setCell (p := ⟨w.heap.size, 1, none⟩) (Nat.le_refl _) _

/-- The answer of a check of a signature whose numbers are of the group. -/
def vfy (p pub : Nat) (text : ByteArray) (R S : Nat) : Bool := decide (pw (2 * p + 1) 4 S = R * pw (2 * p + 1) pub (chal p R pub text).toNat % (2 * p + 1))
def BoolBelow (b : Bool) (w : World) (e : Ending) (w' : World) : Prop := e = .returned (.bool b) ∧ Below w.heap.size w w'
theorem h_hasT (p m n : Nat) (w : World) (hp : p ≤ 2147483648) (h1 : 2 ≤ m) (h2 : m ≤ 2147483648) (hg : inG p m (n : Int) = true) :
    Calls Tryd.prog 59 #[.agg #[.int .i64 (p : Int), .int .i64 (m : Int)], .int .i64 (n : Int)] w (BoolBelow true w) :=
  (h_has p m n w hp h1 h2).mono fun _ _ ⟨he, hw⟩ => ⟨by rw [he, hg], hw⟩
theorem h_gpowerN (p m x e : Nat) (w : World) (h0 : 1 ≤ p) (hp : p ≤ 2147483648) (h1 : 2 ≤ m) (h2 : m ≤ 2147483648) (hx : x < 2147483648) (he : e < p) :
    Calls Tryd.prog 51 #[.agg #[.int .i64 (p : Int), .int .i64 (m : Int)], .int .i64 (x : Int), .int .i64 (e : Int)] w (IntBelow (pw m x e : Int) w) :=
  (h_gpower p m x e w h0 hp h1 h2 hx).mono fun _ _ ⟨hr, hw⟩ => ⟨by rw [hr, Int.emod_eq_of_lt (by omega) (by omega)]; rfl, hw⟩
theorem h_gpowerI (p m x : Nat) (e : Int) (w : World) (h0 : 1 ≤ p) (hp : p ≤ 2147483648) (h1 : 2 ≤ m) (h2 : m ≤ 2147483648) (hx : x < 2147483648) (he0 : 0 ≤ e) (he : e < p) :
    Calls Tryd.prog 51 #[.agg #[.int .i64 (p : Int), .int .i64 (m : Int)], .int .i64 (x : Int), .int .i64 e] w (IntBelow (pw m x e.toNat : Int) w) :=
  (h_gpower p m x e w h0 hp h1 h2 hx).mono fun _ _ ⟨hr, hw⟩ => ⟨by rw [hr, Int.emod_eq_of_lt (by omega) (by omega)], hw⟩
theorem h_timesB (m a b : Nat) (w : World) (h1 : 1 ≤ m) (h2 : m ≤ 2147483648) (ha : a < 2147483648) (hb : b < 2147483648) :
    Calls Tryd.prog 54 #[.int .i64 (m : Int), .int .i64 (a : Int), .int .i64 (b : Int)] w (IntBelow ((a * b % m : Nat) : Int) w) :=
  (h_times m a b w h1 h2 ha hb).mono fun _ _ ⟨hr, hw⟩ => ⟨hr, by subst hw; exact Below.refl _ _⟩
theorem h_gp4 (p S : Nat) (w : World) (h0 : 1 ≤ p) (hp : p ≤ 1073741823) (he : S < p) :
    Calls Tryd.prog 51 #[.agg #[.int .i64 (p : Int), .int .i64 (2 * (p : Int) + 1)], .int .i64 4, .int .i64 (S : Int)] w (IntBelow (pw (2 * p + 1) 4 S : Int) w) :=
  h_gpowerN p (2 * p + 1) 4 S w h0 (by omega) (by omega) (by omega) (by omega) he
theorem h_gpI (p x : Nat) (e : Int) (w : World) (h0 : 1 ≤ p) (hp : p ≤ 1073741823) (hx : x < 2147483648) (he0 : 0 ≤ e) (he : e < p) :
    Calls Tryd.prog 51 #[.agg #[.int .i64 (p : Int), .int .i64 (2 * (p : Int) + 1)], .int .i64 (x : Int), .int .i64 e] w (IntBelow (pw (2 * p + 1) x e.toNat : Int) w) :=
  h_gpowerI p (2 * p + 1) x e w h0 (by omega) (by omega) (by omega) hx he0 he
theorem h_tmI (p a b : Nat) (w : World) (h2 : p ≤ 1073741823) (ha : a < 2147483648) (hb : b < 2147483648) :
    Calls Tryd.prog 54 #[.int .i64 (2 * (p : Int) + 1), .int .i64 (a : Int), .int .i64 (b : Int)] w (IntBelow ((a * b % (2 * p + 1) : Nat) : Int) w) :=
  h_timesB (2 * p + 1) a b w (by omega) (by omega) ha hb
set_option maxRecDepth 100000 in
set_option maxHeartbeats 4000000 in
theorem h_Verify (p pub R S : Nat) (text : ByteArray) (w : World) (hw : BasesOk w) (h : SPrm p) (h5 : inG p (2 * p + 1) (pub : Int) = true) (h6 : inG p (2 * p + 1) (R : Int) = true) (h7 : S < p) (ht : text.size < 2147483648) :
    Calls Tryd.prog 39 #[.int .i64 (p : Int), .int .i64 (pub : Int), .string text, .agg #[.int .i64 (R : Int), .int .i64 (S : Int)]] w (BoolBelow (vfy p pub text R S) w) := by
  have h3 := h.2.2.1
  have h4 := h.2.2.2
  have hw1 := hw.alloc (.cells #[.int .i64 (R : Int), .int .i64 (S : Int)] 53)
  have HW := Lib.hid hw1
  have H := Lib.hid h
  have H5 := Lib.hid h5
  have H6 := Lib.hid h6
  clear hw hw1 h h5 h6
  go_enter Tryd.func39, Tryd.ntmps39
  go_wp2_with fail
  refine (h_of p _ HW.out H.out).mono ?_
  rintro e w1 ⟨rfl, hb1⟩
  have s1 := hb1.size
  have r0 : w1.cell? ⟨w.heap.size, 0, none⟩ = some (.int .i64 (R : Int)) := by
    rw [hb1.cell (by simp), World.cell?_alloc_new]; rfl
  have r1 : w1.cell? ⟨w.heap.size, 1, none⟩ = some (.int .i64 (S : Int)) := by
    rw [hb1.cell (by simp), World.cell?_alloc_new]; rfl
  have hlt1 : w.heap.size < w1.heap.size := by simp at s1; omega
  have hbw : Below w.heap.size w w1 := ((Below.refl _ _).alloc (Nat.le_refl _) _).trans (hb1.mono (by simp))
  clear hb1 s1
  go_wp2_with fail
  refine (h_hasT p (2 * p + 1) pub _ (by omega) (by omega) (by omega) H5.out).mono ?_
  rintro e w2 ⟨rfl, hb2⟩
  have s2 := hb2.size
  have hlt2 : w1.heap.size < w2.heap.size := by simp at s2; omega
  have r0' : w2.cell? ⟨w.heap.size, 0, none⟩ = some (.int .i64 (R : Int)) := by rw [hb2.cell (by simp; omega), World.cell?_alloc_lt _ _ _ (by exact hlt1)]; exact r0
  have r1' : w2.cell? ⟨w.heap.size, 1, none⟩ = some (.int .i64 (S : Int)) := by rw [hb2.cell (by simp; omega), World.cell?_alloc_lt _ _ _ (by exact hlt1)]; exact r1
  have g0' : w2.cell? ⟨w1.heap.size, 0, none⟩ = some (.int .i64 (p : Int)) := by rw [hb2.cell (by simp), World.cell?_alloc_new]; rfl
  have g1' : w2.cell? ⟨w1.heap.size, 1, none⟩ = some (.int .i64 (2 * (p : Int) + 1)) := by rw [hb2.cell (by simp), World.cell?_alloc_new]; rfl
  have hbw2 : Below w.heap.size w w2 := (hbw.alloc (by omega) _).trans (hb2.mono (by simp; omega))
  clear hb2 s2 r0 r1 hbw
  go_wp2_with fail
  refine (h_hasT p (2 * p + 1) R _ (by omega) (by omega) (by omega) H6.out).mono ?_
  rintro e w3 ⟨rfl, hb3⟩
  have s3 := hb3.size
  have hlt3 : w1.heap.size < w3.heap.size := by omega
  have r0 : w3.cell? ⟨w.heap.size, 0, none⟩ = some (.int .i64 (R : Int)) := by rw [hb3.cell (by simp; omega)]; exact r0'
  have r1 : w3.cell? ⟨w.heap.size, 1, none⟩ = some (.int .i64 (S : Int)) := by rw [hb3.cell (by simp; omega)]; exact r1'
  have g0 : w3.cell? ⟨w1.heap.size, 0, none⟩ = some (.int .i64 (p : Int)) := by rw [hb3.cell (by simp; omega)]; exact g0'
  have g1 : w3.cell? ⟨w1.heap.size, 1, none⟩ = some (.int .i64 (2 * (p : Int) + 1)) := by rw [hb3.cell (by simp; omega)]; exact g1'
  have hbw3 : Below w.heap.size w w3 := hbw2.trans (hb3.mono (by omega))
  have q1 : (S : Int) < (p : Int) := by omega
  clear hb3 s3 r0' r1' g0' g1' hbw2
  go_wp2_with fail
  have q2 : pub < 2 * p + 1 := by have := H5.out; simp only [inG, decide_eq_true_eq] at this; omega
  have q3 : R < 2 * p + 1 := by have := H6.out; simp only [inG, decide_eq_true_eq] at this; omega
  have cb := chal_bd p R pub text (by omega)
  have q4 := pw_lt (m := 2 * p + 1) (by omega) pub (chal p R pub text).toNat
  go_region_held3 (fun w' => w'.cell? ⟨w.heap.size, 0, none⟩ = some (.int .i64 (R : Int)) ∧ w'.cell? ⟨w.heap.size, 1, none⟩ = some (.int .i64 (S : Int)) ∧ w'.cell? ⟨w1.heap.size, 0, none⟩ = some (.int .i64 (p : Int)) ∧ w'.cell? ⟨w1.heap.size, 1, none⟩ = some (.int .i64 (2 * (p : Int) + 1)) ∧ Below w.heap.size w w' ∧ w1.heap.size < w'.heap.size)
    (first
      | exact ⟨r0, r1, g0, g1, hbw3.drew, hlt3⟩
      | (go_split_ands
         refine ⟨?_, ?_, ?_, ?_, ?_, ?_⟩
         · (rw [hbk.cell (by simp; omega)]; assumption)
         · (rw [hbk.cell (by simp; omega)]; assumption)
         · (rw [hbk.cell (by simp; omega)]; assumption)
         · (rw [hbk.cell (by simp; omega)]; assumption)
         · exact Below.trans ‹Below w.heap.size w _› (hbk.mono (by omega))
         · (have := hbk.size; omega)))
    (first
      | (go_at_call 51; ((with_reducible refine (h_gp4 p S _ (by omega) h4 h7).mono ?_); rintro e wk ⟨rfl, hbk⟩))
      | (go_at_call 51; ((with_reducible refine (h_gpI p pub (chal p R pub text) _ (by omega) h4 (by omega) (by omega) (by omega)).mono ?_); rintro e wk ⟨rfl, hbk⟩))
      | (go_at_call 64; ((with_reducible refine (h_challenge p R pub text _ (by omega) (by omega) (by omega) (by omega) (by omega) (by omega) ht).mono ?_); rintro e wk ⟨rfl, hbk⟩))
      | (go_at_call 54; ((with_reducible refine (h_tmI p R (pw (2 * p + 1) pub (chal p R pub text).toNat) _ h4 (by omega) (by omega)).mono ?_); rintro e wk ⟨rfl, hbk⟩)))
  go_wp2_with fail
  go_split_ands
  go_ret
  refine ⟨ret_bool ?_, by assumption⟩
  show (((pw (2 * p + 1) 4 S : Nat) : Int) == (R : Int) * ((pw (2 * p + 1) pub (chal p R pub text).toNat : Nat) : Int) % (2 * (p : Int) + 1)) = vfy p pub text R S
  rw [Bool.eq_iff_iff, beq_iff_eq, vfy, decide_eq_true_eq]
  generalize pw (2 * p + 1) pub (chal p R pub text).toNat = z
  rw [← Int.natCast_mul, show (2 * (p : Int) + 1) = ((2 * p + 1 : Nat) : Int) by omega, ← Int.natCast_emod]
  generalize R * z % (2 * p + 1) = y
  omega
end Go.Proofs.YtmneokkdkgflkaaDoor
