/- Contracts: the statement FormsPrints. -/
import Derived.Test.YthfmmememdlekaaGreatDoorP34
import Derived.Test.YthfmmememdlekaaGreatDoorP38
import Derived.Test.YthfmmememdlekaaGreatDoorP32
set_option linter.unusedVariables false
set_option linter.unusedSimpArgs false
namespace Go.Proofs.YthfmmememdlekaaGreatDoor
open Go.RowKit Num

theorem fp_alloc (w : World) (o : Obj) : Below w.heap.size w (w.alloc o) := (Below.refl _ _).alloc (Nat.le_refl _) o
set_option maxHeartbeats 400000 in
theorem fp_LightF (A : Option Addr) (n c : Nat) (w : World) (h : n ≤ 9223372036854775807) (h5 : ¬ n ≤ 500) : Calls Tryz.prog 6 #[.slice A n c] w fun e w' => e = .returned (.bool false) ∧ w = w' := by
  have := k_Light A n c w h
  rwa [decide_eq_false (by omega)] at this
theorem fp_LightT (A : Option Addr) (n c : Nat) (w : World) (h : n ≤ 9223372036854775807) (h5 : n ≤ 500) : Calls Tryz.prog 6 #[.slice A n c] w fun e w' => e = .returned (.bool true) ∧ w = w' := by
  have := k_Light A n c w h
  rwa [decide_eq_true (by omega)] at this
/-- What both printers give. -/
def prS (L : List Trm) : ByteArray := match rootF L with | none => ⟨#[]⟩ | some T => bsOf (txT 6 T)
def prZ (L : List Trm) : Int := match rootF L with | none => 14 | some _ => 0
def PrE (s : ByteArray) (z : Int) (w : World) (e : Ending) (w' : World) : Prop := e = .returned (.tuple #[.string s, .int .i64 z]) ∧ Below w.heap.size w w'
theorem pr_post {L : List Trm} {w w' : World} {e : Ending} (h : PrintPost w (rootF L) e w') : PrE (prS L) (prZ L) w e w' := by
  obtain ⟨h1, h2⟩ := h
  refine ⟨?_, h2⟩
  rw [h1]
  unfold prS prZ
  cases rootF L <;> rfl
/-- A raw term that is passed on. -/
def TrmSm (t : Trm) : Prop := t.args.length ≤ 40 ∧ t.text.size ≤ 1000 ∧ t.field.size ≤ 100
theorem TrmSm.ok {t : Trm} (h : TrmSm t) : TrmOk t := ⟨by have := h.2.2; omega, by have := h.2.1; omega, by have := h.1; omega⟩
/-- What the calls keep. -/
structure FpK (w : World) (d C R : Nat) (vc vr : Value) (Lc Lr : List Trm) (W : World) : Prop where
  dice : Dc W d
  cb : Blk W C 25 #[vc]
  rb : Blk W R 25 #[vr]
  tc : TermsAt W (fun b => b ≠ d ∧ b < W.heap.size) vc Lc
  tr : TermsAt W (fun b => b ≠ d ∧ b < W.heap.size) vr Lr
  old : Below w.heap.size w W
  ne : C ≠ d ∧ R ≠ d ∧ w.heap.size ≤ d
section
variable {w W W' : World} {d C R : Nat} {vc vr : Value} {Lc Lr : List Trm}
theorem terms_dice {v : Value} {L : List Trm} (h : TermsAt W (fun b => b ≠ d ∧ b < W.heap.size) v L) (hg : W.grownBy W' (some d)) : TermsAt W' (fun b => b ≠ d ∧ b < W'.heap.size) v L :=
  (h.keep fun b hb => hg.block b hb.2 (fun e => hb.1 (Option.some.inj e))).mono fun b hb => ⟨hb.1, Nat.lt_of_lt_of_le hb.2 hg.size⟩
theorem FpK.grown (h : FpK w d C R vc vr Lc Lr W) (hd : Dc W' d) (hg : W.grownBy W' (some d)) : FpK w d C R vc vr Lc Lr W' :=
  ⟨hd, (hg.block C h.cb.lt (fun e => h.ne.1 (Option.some.inj e))).trans h.cb, (hg.block R h.rb.lt (fun e => h.ne.2.1 (Option.some.inj e))).trans h.rb, terms_dice h.tc hg, terms_dice h.tr hg, h.old.grown hg h.old.size (fun g hg => by injection hg with hg; have := h.ne.2.2; omega), h.ne⟩
theorem FpK.drew (h : FpK w d C R vc vr Lc Lr W) : FpK w d C R vc vr Lc Lr W.drew := ⟨h.dice, h.cb, h.rb, h.tc, h.tr, h.old.drew, h.ne⟩
theorem FpK.alloc (h : FpK w d C R vc vr Lc Lr W) (o : Obj) : FpK w d C R vc vr Lc Lr (W.alloc o) :=
  h.grown (h.dice.alloc o) (World.grownBy_alloc W o _)
theorem FpK.lim (h : FpK w d C R vc vr Lc Lr W) : W.cell? ⟨C, 0, none⟩ = some vc ∧ W.cell? ⟨R, 0, none⟩ = some vr ∧ Hid (FpK w d C R vc vr Lc Lr W) := ⟨(h.cb.cell 0).trans rfl, (h.rb.cell 0).trans rfl, Lib.hid h⟩
end
/-- A condition that a call has made. -/
def Made (w : World) (d C R : Nat) (vc vr : Value) (Lc Lr : List Trm) (n : Nat) (W : World) (e : Ending) (W' : World) : Prop :=
  ∃ A m c L, e = .returned (.agg #[.slice A m c]) ∧ TermsAt W' (fun b => b ≠ d ∧ b < W'.heap.size) (.slice A m c) L ∧ L.length ≤ n ∧ (∀ t ∈ L, TrmOk t) ∧ FpK w d C R vc vr Lc Lr W' ∧ W.grownBy W' (some d)
def MadeK (w : World) (d C R : Nat) (vc vr : Value) (Lc Lr : List Trm) (n : Nat) (W : World) (e : Ending) (W' : World) : Prop :=
  ∃ A m c L, e = .returned (.agg #[.slice A m c]) ∧ TermsAt W' (fun b => b ≠ d ∧ b < W'.heap.size) (.slice A m c) L ∧ L.length ≤ n ∧ 1 ≤ L.length ∧ (∀ t ∈ L, KitT t) ∧ FpK w d C R vc vr Lc Lr W' ∧ W.grownBy W' (some d)
theorem kit_small {L : List Trm} (h : ∀ t ∈ L, KitT t) : ∀ t ∈ L, t.field.size ≤ 1000 ∧ t.text.size ≤ 1000 ∧ t.args.length ≤ 1000 := fun t ht => by
  obtain ⟨a, b, _, _, c⟩ := h t ht
  exact ⟨by omega, by omega, by omega⟩
theorem odd_call {w : World} {d C R : Nat} {vc vr : Value} {Lc Lr : List Trm} (W : World) (hK : FpK w d C R vc vr Lc Lr W) (A : Option Addr) (m c : Nat) (L : List Trm) (n : Nat) (hT : TermsAt W (fun b => b ≠ d ∧ b < W.heap.size) (.slice A m c) L) (h1 : 1 ≤ L.length) (h2 : L.length ≤ n) (hn : n ≤ 1000) (hk : ∀ t ∈ L, KitT t) :
    Calls Tryz.prog 10 #[.pointer (some ⟨d, 0, none⟩), .agg #[.slice A m c]] W (Made w d C R vc vr Lc Lr (n + 1) W) := by
  obtain ⟨A', m', c', he, hm, hmc, h4⟩ := id hT
  injection he with e1 e2 e3
  subst e1 e2 e3
  obtain ⟨b, off, rfl, hS, _⟩ := h4 (by omega)
  refine (k_Odd_some d b off m c L W hK.dice hT hm (by omega) (by omega) (kit_small hk)).mono ?_
  rintro e W' ⟨A2, n2, c2, L2, rfl, ht, hl, hok, hd, hg⟩
  exact ⟨A2, n2, c2, L2, rfl, ht, by omega, hok, hK.grown hd hg, hg⟩
theorem cond_call {w : World} {d C R : Nat} {vc vr : Value} {Lc Lr : List Trm} (W : World) (hK : FpK w d C R vc vr Lc Lr W) :
    Calls Tryz.prog 9 #[.pointer (some ⟨d, 0, none⟩), .int .i64 2] W (MadeK w d C R vc vr Lc Lr 13 W) := by
  refine (k_Condition1 d 2 W hK.dice (by omega)).mono ?_
  rintro e W' ⟨A2, n2, c2, L2, rfl, ht, hl, hok, hd, hg, h1⟩
  have hlt := hK.dice.lt
  exact ⟨A2, n2, c2, L2, rfl, ht.mono (fun b hb => ⟨by omega, hb.2⟩), hl, h1, hok, hK.grown hd hg, hg⟩
theorem szK_5 : szK 5 = 364 := by decide
set_option maxRecDepth 100000 in
set_option maxHeartbeats 400000 in
theorem f_prints_heavy (A : Option Addr) (n c : Nat) (A2 : Option Addr) (n2 c2 : Nat) (w : World) (hl : LibOk w) (hn : n ≤ 9223372036854775807) (h5 : ¬ n ≤ 500) : Calls Tryz.prog 3 #[.slice A n c, .agg #[.slice A2 n2 c2]] w (AwkEnd w) := by
  have HB := Lib.hid (fp_alloc w (.cells #[.slice A2 n2 c2] 25))
  have HL := Lib.hid (hl.later HB.out)
  clear hl
  go_enter Tryz.func3, Tryz.ntmps3
  go_wp2_with fail
  refine (fp_LightF A n c _ hn h5).mono ?_
  rintro e w1 ⟨rfl, rfl⟩
  go_wp2_with fail
  refine (f_awake _ HL.out).mono ?_
  rintro e w2 ⟨rfl, hb2⟩
  have HB2 := Lib.hid (HB.out.trans (hb2.mono (by simp)))
  clear hb2
  go_wp2_with fail
  go_ret
  exact ⟨rfl, HB2.out⟩
set_option maxRecDepth 100000 in
set_option maxHeartbeats 400000 in
theorem f_prints_long (A : Option Addr) (n c : Nat) (A2 : Option Addr) (n2 c2 : Nat) (w : World) (hl : LibOk w) (hn : n ≤ 9223372036854775807) (h5 : n ≤ 500) (h6 : ¬ n2 ≤ 40) : Calls Tryz.prog 3 #[.slice A n c, .agg #[.slice A2 n2 c2]] w (AwkEnd w) := by
  have HB := Lib.hid (fp_alloc w (.cells #[.slice A2 n2 c2] 25))
  have HL := Lib.hid (hl.later HB.out)
  have c0 : (w.alloc (.cells #[.slice A2 n2 c2] 25)).cell? ⟨w.heap.size, 0, none⟩ = some (.slice A2 n2 c2) := (Blk.new w 25 #[.slice A2 n2 c2]).cell 0
  have z1 : (40 : Int) < (n2 : Int) := by omega
  clear hl
  go_enter Tryz.func3, Tryz.ntmps3
  go_wp2_with fail
  refine (fp_LightT A n c _ hn h5).mono ?_
  rintro e w1 ⟨rfl, rfl⟩
  go_wp2_with fail
  refine (f_awake _ HL.out).mono ?_
  rintro e w2 ⟨rfl, hb2⟩
  have HB2 := Lib.hid (HB.out.trans (hb2.mono (by simp)))
  clear hb2
  go_wp2_with fail
  go_ret
  exact ⟨rfl, HB2.out⟩
/-- Conditions in a literal: the four that are printed. -/
def FpJ (W : World) (ab : Nat) : Prop := ∀ k, k < 4 → ∃ A n c L, W.cell? ⟨ab, k, none⟩ = some (.slice A n c) ∧ TermsAt W (· < W.heap.size) (.slice A n c) L ∧ L.length ≤ 1000 ∧ ∀ t ∈ L, TrmOk t
theorem FpJ.below {W W' : World} {ab : Nat} (h : FpJ W ab) (hab : ab < W.heap.size) (hb : Below W.heap.size W W') : FpJ W' ab := fun k hk => by
  obtain ⟨A, n, c, L, h1, h2, h3, h4⟩ := h k hk
  exact ⟨A, n, c, L, (hb.cell (p := ⟨ab, k, none⟩) hab).trans h1, (h2.keep fun b hB => hb.block b hB).mono fun b hB => Nat.lt_of_lt_of_le hB hb.size, h3, h4⟩
theorem fpj_new {W : World} {d : Nat} {A0 A1 A2 A3 : Option Addr} {n0 n1 n2 n3 c0 c1 c2 c3 : Nat} {L0 L1 L2 L3 : List Trm} (h0 : TermsAt W (fun b => b ≠ d ∧ b < W.heap.size) (.slice A0 n0 c0) L0) (h1 : TermsAt W (fun b => b ≠ d ∧ b < W.heap.size) (.slice A1 n1 c1) L1)
    (h2 : TermsAt W (fun b => b ≠ d ∧ b < W.heap.size) (.slice A2 n2 c2) L2) (h3 : TermsAt W (fun b => b ≠ d ∧ b < W.heap.size) (.slice A3 n3 c3) L3) (l0 : L0.length ≤ 1000) (l1 : L1.length ≤ 1000) (l2 : L2.length ≤ 1000) (l3 : L3.length ≤ 1000)
    (k0 : ∀ t ∈ L0, TrmOk t) (k1 : ∀ t ∈ L1, TrmOk t) (k2 : ∀ t ∈ L2, TrmOk t) (k3 : ∀ t ∈ L3, TrmOk t) : FpJ (W.alloc (.cells #[.slice A0 n0 c0, .slice A1 n1 c1, .slice A2 n2 c2, .slice A3 n3 c3] 25)) W.heap.size := by
  have hb := Blk.new W 25 #[.slice A0 n0 c0, .slice A1 n1 c1, .slice A2 n2 c2, .slice A3 n3 c3]
  have ht : ∀ (v : Value) (L : List Trm), TermsAt W (fun b => b ≠ d ∧ b < W.heap.size) v L → TermsAt (W.alloc (.cells #[.slice A0 n0 c0, .slice A1 n1 c1, .slice A2 n2 c2, .slice A3 n3 c3] 25)) (· < (W.alloc (.cells #[.slice A0 n0 c0, .slice A1 n1 c1, .slice A2 n2 c2, .slice A3 n3 c3] 25)).heap.size) v L :=
    fun v L h => (h.keep fun b hB => Below.heap_alloc _ _ _ hB.2).mono fun b hB => by have := hB.2; simp; omega
  intro k hk
  have h4 : k = 0 ∨ k = 1 ∨ k = 2 ∨ k = 3 := by omega
  rcases h4 with rfl | rfl | rfl | rfl
  · exact ⟨A0, n0, c0, L0, hb.cell 0, ht _ _ h0, l0, k0⟩
  · exact ⟨A1, n1, c1, L1, hb.cell 1, ht _ _ h1, l1, k1⟩
  · exact ⟨A2, n2, c2, L2, hb.cell 2, ht _ _ h2, l2, k2⟩
  · exact ⟨A3, n3, c3, L3, hb.cell 3, ht _ _ h3, l3, k3⟩
theorem kit_ok' {L : List Trm} (h : ∀ t ∈ L, KitT t) : ∀ t ∈ L, TrmOk t := fun t ht => by
  obtain ⟨a, b, _, _, c⟩ := h t ht
  exact ⟨by omega, by omega, by omega⟩
set_option maxRecDepth 100000 in
set_option maxHeartbeats 8000000 in
theorem f_prints_main (A : Option Addr) (n c : Nat) (A2 : Option Addr) (n2 c2 : Nat) (L : List Trm) (w : World) (hl : LibOk w) (hsp : SpcOk w) (hn : n ≤ 9223372036854775807) (h5 : n ≤ 500) (har : ArgL w (.slice A n c)) (h6 : n2 ≤ 40)
    (hT : TermsAt w (· < w.heap.size) (.slice A2 n2 c2) L) (hw : ∀ t ∈ L, TrmWide t) : Calls Tryz.prog 3 #[.slice A n c, .agg #[.slice A2 n2 c2]] w (AwkEnd w) := by
  have hb0 := fp_alloc w (.cells #[.slice A2 n2 c2] 25)
  obtain ⟨hn2, hc4⟩ : n2 = L.length ∧ (0 < n2 → ∃ b off, A2 = some ⟨b, off, none⟩ ∧ b < w.heap.size ∧ ∀ k, k < n2 → TermAt w (· < w.heap.size) b (off + k * 6) (trmAt L k)) := by
    obtain ⟨A', n', c', he, h1, h2, h3⟩ := id hT
    injection he with e1 e2 e3
    subst e1 e2 e3
    exact ⟨h1, h3⟩
  have HB0 := Lib.hid hb0
  have HL := Lib.hid hl
  have HSP := Lib.hid hsp
  have HAR := Lib.hid har
  have HT := Lib.hid hT
  have HW := Lib.hid hw
  have HN2 := Lib.hid hn2
  have HC4 := Lib.hid hc4
  have c0 : (w.alloc (.cells #[.slice A2 n2 c2] 25)).cell? ⟨w.heap.size, 0, none⟩ = some (.slice A2 n2 c2) := (Blk.new w 25 #[.slice A2 n2 c2]).cell 0
  have HR := Lib.hid (Blk.new w 25 #[.slice A2 n2 c2])
  have hsz0 : (w.alloc (.cells #[.slice A2 n2 c2] 25)).heap.size = w.heap.size + 1 := by simp
  have z1 : ¬ (40 : Int) < (n2 : Int) := by omega
  clear hl hsp har hT hw hn2 hc4 hb0
  go_enter Tryz.func3, Tryz.ntmps3
  go_wp2_with fail
  refine (fp_LightT A n c _ hn h5).mono ?_
  rintro e w1 ⟨rfl, rfl⟩
  go_wp2_with fail
  obtain ⟨w1, hw1⟩ : ∃ w1, w.alloc (.cells #[.slice A2 n2 c2] 25) = w1 := ⟨_, rfl⟩
  rw [hw1] at HB0 HR c0 hsz0 ⊢
  clear hw1 z1 c0
  go_loopw [28] (fun v28 wr => ∃ k : Nat, k ≤ n2 ∧ v28 = .int .i64 (k : Int) ∧ Below w1.heap.size w1 wr ∧ ∀ j, j < k → TrmSm (trmAt L j)) (fun v28 _ => n2 - (intOf v28).toNat)
  case atStart => exact ⟨0, by omega, rfl, Below.refl _ _, fun j hj => absurd hj (by omega)⟩
  case round =>
    obtain ⟨k, hk, rfl, hbr, hsm⟩ := hrel
    have hszr := hbr.size
    have HBR := Lib.hid hbr
    have HSM := Lib.hid hsm
    clear hbr hsm
    by_cases hlt : k < n2
    · obtain ⟨b, off, rfl, hbw, hc⟩ := HC4.out (by omega)
      have hct := hc k hlt
      have hmem : trmAt L k ∈ L := trmAt_mem (by have := HN2.out; omega)
      have hwd := HW.out _ hmem
      have hfin : TrmSm (trmAt L k) → ∀ j, j < k + 1 → TrmSm (trmAt L j) := fun h j hj => by
        by_cases e : j = k
        · subst e; exact h
        · exact HSM.out j (by omega)
      have HFIN := Lib.hid hfin
      clear hmem hfin hc
      obtain ⟨t, ht⟩ : ∃ t, trmAt L k = t := ⟨_, rfl⟩
      rw [ht] at hct hwd HFIN
      clear ht
      obtain ⟨kd, nm, yr, f, x, az⟩ := t
      obtain ⟨c0, c1, c2', c3, c4, u, c5, hu⟩ := hct
      obtain ⟨Au, nu, cu, rfl, hnu, hcu, -⟩ := hu
      have hbl : Below w.heap.size w wr := HB0.out.trans (HBR.out.mono (by omega))
      have e0 : wr.cell? ⟨b, off + k * 6, none⟩ = _ := (hbl.cell (p := ⟨b, off + k * 6, none⟩) hbw).trans c0
      have e1 : wr.cell? ⟨b, off + k * 6 + 1, none⟩ = _ := (hbl.cell (p := ⟨b, off + k * 6 + 1, none⟩) hbw).trans c1
      have e2 : wr.cell? ⟨b, off + k * 6 + 2, none⟩ = _ := (hbl.cell (p := ⟨b, off + k * 6 + 2, none⟩) hbw).trans c2'
      have e3 : wr.cell? ⟨b, off + k * 6 + 3, none⟩ = _ := (hbl.cell (p := ⟨b, off + k * 6 + 3, none⟩) hbw).trans c3
      have e4 : wr.cell? ⟨b, off + k * 6 + 4, none⟩ = _ := (hbl.cell (p := ⟨b, off + k * 6 + 4, none⟩) hbw).trans c4
      have e5 : wr.cell? ⟨b, off + k * 6 + 5, none⟩ = _ := (hbl.cell (p := ⟨b, off + k * 6 + 5, none⟩) hbw).trans c5
      have hbx : Below w.heap.size w (wr.alloc (.cells #[.int .i64 kd, .int .i64 nm, .int .i64 yr, .string f, .string x, .slice Au nu cu] 29)) := hbl.alloc (by omega) _
      have HLX := Lib.hid (HL.out.later hbx)
      have HBX := Lib.hid hbx
      have hbr2 : Below w1.heap.size w1 (wr.alloc (.cells #[.int .i64 kd, .int .i64 nm, .int .i64 yr, .string f, .string x, .slice Au nu cu] 29)) := HBR.out.alloc hszr _
      have HBR2 := Lib.hid hbr2
      have hwa : nu ≤ 9223372036854775807 := by have := hwd.2.2.1; simp only [maxLen] at this; show nu ≤ _; simp only at hnu; omega
      have hwf : f.size ≤ 9223372036854775807 := hwd.1
      have hwx : x.size ≤ 9223372036854775807 := hwd.2.1
      have HNU := Lib.hid hnu
      clear c0 c1 c2' c3 c4 c5 hbl hbx hbr2 hwd hnu hcu
      have zi : (k : Int) < (n2 : Int) := by omega
      by_cases g1 : nu ≤ 40
      · have d1 : ¬ (40 : Int) < (nu : Int) := by omega
        by_cases g2 : x.size ≤ 1000
        · have d2 : ¬ (1000 : Int) < (x.size : Int) := by omega
          by_cases g3 : f.size ≤ 100
          · have d3 : ¬ (100 : Int) < (f.size : Int) := by omega
            go_wp2_with fail
            go_roundw
            case measure => simp [intOf]; omega
            case rel => exact ⟨k + 1, by omega, by go_num, HBR2.out, HFIN.out ⟨by have := HNU.out; show az.length ≤ 40; simp only at this; omega, g2, g3⟩⟩
          · have d3 : (100 : Int) < (f.size : Int) := by omega
            go_wp2_with fail
            refine (f_awake _ HLX.out).mono ?_
            rintro e w2 ⟨rfl, hb2⟩
            have HB2 := Lib.hid (HBX.out.trans (hb2.mono (by simp; omega)))
            clear hb2
            go_wp2_with fail
            go_ret
            exact ⟨rfl, HB2.out⟩
        · have d2 : (1000 : Int) < (x.size : Int) := by omega
          go_wp2_with fail
          refine (f_awake _ HLX.out).mono ?_
          rintro e w2 ⟨rfl, hb2⟩
          have HB2 := Lib.hid (HBX.out.trans (hb2.mono (by simp; omega)))
          clear hb2
          go_wp2_with fail
          go_ret
          exact ⟨rfl, HB2.out⟩
      · have d1 : (40 : Int) < (nu : Int) := by omega
        go_wp2_with fail
        refine (f_awake _ HLX.out).mono ?_
        rintro e w2 ⟨rfl, hb2⟩
        have HB2 := Lib.hid (HBX.out.trans (hb2.mono (by simp; omega)))
        clear hb2
        go_wp2_with fail
        go_ret
        exact ⟨rfl, HB2.out⟩
    · have zi : ¬ (k : Int) < (n2 : Int) := by omega
      have hkn : k = n2 := by omega
      have hall : ∀ t ∈ L, TrmOk t := fun t ht => by
        obtain ⟨j, hj, e⟩ := List.getElem_of_mem ht
        have h1 := HSM.out j (by have := HN2.out; omega)
        have h2 : trmAt L j = t := by
          unfold trmAt
          rw [List.getD_eq_getElem?_getD, List.getElem?_eq_getElem hj, e]
          rfl
        rw [h2] at h1
        exact h1.ok
      have HALL := Lib.hid hall
      have hbl : Below w.heap.size w wr := HB0.out.trans (HBR.out.mono (by omega))
      have harr : ArgL wr (.slice A n c) := by
        obtain ⟨A', n', c', LL, he, q1, q2⟩ := HAR.out
        injection he with e1 e2 e3
        subst e1 e2 e3
        refine ⟨_, _, _, LL, rfl, q1, fun hn0 => ?_⟩
        obtain ⟨b0, off, e, hb, hcc⟩ := q2 hn0
        exact ⟨b0, off, e, by have := hbl.size; omega, fun i hi => (hbl.cell (p := ⟨b0, off + i, none⟩) hb).trans (hcc i hi)⟩
      have HARR := Lib.hid harr
      have hRr := HR.out.below' HBR.out HR.out.lt
      have HRr := Lib.hid hRr
      have HBL := Lib.hid hbl
      clear hall hbl harr hRr hkn
      go_wp2_with fail
      refine (k_Roll _ _ HARR.out).mono ?_
      rintro e w3 ⟨rfl, hd3, hb3⟩
      have HD3 := Lib.hid hd3
      have HB3 := Lib.hid hb3
      have hs3 := hd3.lt
      clear hd3 hb3
      go_wp2_with fail
      refine (k_Condition1 wr.heap.size 5 w3 HD3.out (by omega)).mono ?_
      rintro e w4 ⟨Ac, nc, cc, Lc, rfl, hTc, hlc, hkc, hd4, hg4, h1c⟩
      have hs4 := hg4.size
      rw [szK_5] at hlc
      have hR4 : Blk w4 w.heap.size 25 #[.slice A2 n2 c2] := (hg4.block _ (by omega) (by intro e; injection e; omega)).trans ((HB3.out.block _ (by omega)).trans HRr.out)
      have hold4 : Below w.heap.size w w4 := (HBL.out.trans (HB3.out.mono (by omega))).grown hg4 (by omega) (fun g hg => by injection hg with hg; omega)
      have hTr4 : TermsAt w4 (fun b => b ≠ wr.heap.size ∧ b < w4.heap.size) (.slice A2 n2 c2) L := (HT.out.keep fun b hb => hold4.block b hb).mono fun b hb => ⟨by omega, by omega⟩
      have hK : FpK w wr.heap.size w4.heap.size w.heap.size (.slice Ac nc cc) (.slice A2 n2 c2) Lc L (w4.alloc (.cells #[.slice Ac nc cc] 25)) := by
        refine ⟨hd4.alloc _, Blk.new w4 _ _, hR4.alloc _, ?_, ?_, hold4.alloc (by omega) _, by omega, by omega, by omega⟩
        · exact (hTc.keep fun b hb => Below.heap_alloc _ _ _ hb.2).mono fun b hb => ⟨by omega, by have := hb.2; simp; omega⟩
        · exact (hTr4.keep fun b hb => Below.heap_alloc _ _ _ hb.2).mono fun b hb => ⟨hb.1, by have := hb.2; simp; omega⟩
      have hz4 : (w4.alloc (.cells #[.slice Ac nc cc] 25)).heap.size = w4.heap.size + 1 := by simp
      have HK := Lib.hid hK
      have hc4' := (hK.cb.cell 0).trans (show _ = some (Value.slice Ac nc cc) from rfl)
      have hr4' := (hK.rb.cell 0).trans (show _ = some (Value.slice A2 n2 c2) from rfl)
      have HKC := Lib.hid hkc
      have HC1 := Lib.hid h1c
      have HLC := Lib.hid hlc
      clear hTc hd4 hg4 hR4 hold4 hTr4 hK HD3 HB3 HRr HARR HAR HT HR HBR HB0 HC4 hkc h1c hlc
      go_upto_region 11 with fail
      obtain ⟨w5, hw5⟩ : ∃ w5, w4.alloc (.cells #[.slice Ac nc cc] 25) = w5 := ⟨_, rfl⟩
      obtain ⟨d, hdd⟩ : ∃ d, wr.heap.size = d := ⟨_, rfl⟩
      obtain ⟨C, hC⟩ : ∃ C, w4.heap.size = C := ⟨_, rfl⟩
      rw [hw5, hdd, hC] at HK
      rw [hw5, hC] at hc4' hz4
      rw [hw5] at hr4'
      rw [hw5, hdd, hC]
      clear hw5 hdd hC
      obtain ⟨R, hR⟩ : ∃ R, w.heap.size = R := ⟨_, rfl⟩
      rw [hR] at HK hr4' ⊢
      have HRR := Lib.hid hR
      clear hR
      go_region_held3 (fun W => W.cell? ⟨C, 0, none⟩ = some (.slice Ac nc cc) ∧ W.cell? ⟨R, 0, none⟩ = some (.slice A2 n2 c2) ∧ Hid (FpK w d C R (.slice Ac nc cc) (.slice A2 n2 c2) Lc L W))
        (first
          | with_reducible exact HK.out.drew.lim
          | with_reducible exact HP6.out.lim
          | with_reducible exact HP7.out.lim
          | with_reducible exact HP8.out.lim
          | with_reducible exact (HP8.out.alloc _).lim)
        (first
          | (go_at_call 10; ((with_reducible refine (odd_call _ HK.out.drew Ac nc cc Lc 364 HK.out.drew.tc HC1.out HLC.out (by omega) HKC.out).mono ?_); rintro e w6 ⟨A6, n6, c6, L6, rfl, ht6, hl6, hok6, hK6, hg6⟩; have HP6 := Lib.hid hK6; have HT6 := Lib.hid ht6; have HO6 := Lib.hid (And.intro hl6 hok6); clear ht6 hl6 hok6 hK6 hg6))
          | (go_at_call 9; ((with_reducible refine (cond_call _ HP6.out).mono ?_); rintro e w7 ⟨A7, n7, c7, L7, rfl, ht7, hl7, h17, hok7, hK7, hg7⟩; have HP7 := Lib.hid hK7; have HT7 := Lib.hid ht7; have HO7 := Lib.hid (And.intro hl7 (And.intro h17 hok7)); have HT67 := Lib.hid (terms_dice HT6.out hg7); clear ht7 hl7 h17 hok7 hK7 hg7))
          | (go_at_call 10; ((with_reducible refine (odd_call _ HP7.out A7 n7 c7 L7 13 HT7.out HO7.out.2.1 HO7.out.1 (by omega) HO7.out.2.2).mono ?_); rintro e w8 ⟨A8, n8, c8, L8, rfl, ht8, hl8, hok8, hK8, hg8⟩; have HP8 := Lib.hid hK8; have HT8 := Lib.hid ht8; have HO8 := Lib.hid (And.intro hl8 hok8); have HT68 := Lib.hid (terms_dice HT67.out hg8); clear ht8 hl8 hok8 hK8 hg8)))
      all_goals
        have hJ := fpj_new HP8.out.tc HP8.out.tr HT68.out HT8.out (by have := HLC.out; omega) (by have := HN2.out; omega) (by have := HO6.out.1; omega) (by have := HO8.out.1; omega) (kit_ok' HKC.out) HALL.out HO6.out.2 HO8.out.2
        have hold8 := HP8.out.old.alloc HP8.out.old.size (.cells #[.slice Ac nc cc, .slice A2 n2 c2, .slice A6 n6 c6, .slice A8 n8 c8] 25)
        have hab : w8.heap.size < (w8.alloc (.cells #[.slice Ac nc cc, .slice A2 n2 c2, .slice A6 n6 c6, .slice A8 n8 c8] 25)).heap.size := by simp
        have HJ := Lib.hid hJ
        have HOLD := Lib.hid hold8
        clear hJ hold8
        go_wp2_with fail
        obtain ⟨w9, hw9⟩ : ∃ w9, w8.alloc (.cells #[.slice Ac nc cc, .slice A2 n2 c2, .slice A6 n6 c6, .slice A8 n8 c8] 25) = w9 := ⟨_, rfl⟩
        obtain ⟨ab, hab2⟩ : ∃ ab, w8.heap.size = ab := ⟨_, rfl⟩
        rw [hw9, hab2] at HJ hab
        rw [hw9] at HOLD
        rw [hw9, hab2]
        clear hw9 hab2
        clear HP8 HP7 HP6 HK HT6 HT67 HT68 HT7 HT8 HO6 HO7 HO8 HKC HC1 HLC HALL HBL HSM HN2 HW
        go_loopw [65] (fun v65 wq => ∃ k : Nat, k ≤ 4 ∧ v65 = .int .i64 (k : Int) ∧ Below w9.heap.size w9 wq) (fun v65 _ => 4 - (intOf v65).toNat)
        case atStart => exact ⟨0, by omega, rfl, Below.refl _ _⟩
        case round =>
          obtain ⟨k, hk4, rfl, hbq⟩ := hrel
          have hszq := hbq.size
          have HBQ := Lib.hid hbq
          clear hbq
          by_cases hlt4 : k < 4
          · obtain ⟨Ax, nx, cx, Lx, hx, hTx, hlx, hokx⟩ := (HJ.out.below hab HBQ.out) k hlt4
            have hb1 : Below wr.heap.size wr (wr.alloc (.cells #[.slice Ax nx cx] 25)) := fp_alloc _ _
            have hT1 : TermsAt (wr.alloc (.cells #[.slice Ax nx cx] 25)) (· < (wr.alloc (.cells #[.slice Ax nx cx] 25)).heap.size) (.slice Ax nx cx) Lx := (hTx.keep fun b hb => hb1.block b hb).mono fun b hb => Nat.lt_of_lt_of_le hb hb1.size
            have hbl : Below w.heap.size w (wr.alloc (.cells #[.slice Ax nx cx] 25)) := (HOLD.out.trans (HBQ.out.mono HOLD.out.size)).trans (hb1.mono (by have := HOLD.out.size; omega))
            have hn9 : Below w9.heap.size w9 (wr.alloc (.cells #[.slice Ax nx cx] 25)) := HBQ.out.trans (hb1.mono hszq)
            have HN9 := Lib.hid hn9
            have HLX := Lib.hid (HL.out.later hbl)
            have HSX := Lib.hid (spc_below HSP.out (by have := HL.out.size; show (0 : Nat) < _; omega) hbl)
            have HT1 := Lib.hid hT1
            have HOX := Lib.hid hokx
            have HX := Lib.hid (Blk.new wr 25 #[.slice Ax nx cx])
            have zi : (k : Int) < 4 := by omega
            have z0 : (0 : Int) ≤ (k : Int) := by omega
            clear hTx hb1 hT1 hbl hokx hn9
            go_wp2_with fail
            refine ((f_Print _ Lx _ _ HT1.out (Nat.le_refl _) (by omega) HOX.out HLX.out).mono fun _ _ h => pr_post h).mono ?_
            rintro e w10 ⟨rfl, hb10⟩
            obtain ⟨s, hs⟩ : ∃ s, prS Lx = s := ⟨_, rfl⟩
            obtain ⟨z, hz⟩ : ∃ z, prZ Lx = z := ⟨_, rfl⟩
            rw [hs, hz]
            have HZ := Lib.hid (And.intro hs hz)
            have hT10 : TermsAt w10 (· < w10.heap.size) (.slice Ax nx cx) Lx := (HT1.out.keep fun b hb => hb10.block b hb).mono fun b hb => Nat.lt_of_lt_of_le hb hb10.size
            have HT10 := Lib.hid hT10
            have HLX2 := Lib.hid (HLX.out.later hb10)
            have HSX2 := Lib.hid (spc_below HSX.out (by have := HLX.out.size; show (0 : Nat) < _; omega) hb10)
            have hx10 : w10.cell? ⟨wr.heap.size, 0, none⟩ = some (.slice Ax nx cx) := ((HX.out.below' hb10 (by simp)).cell 0).trans rfl
            have HN10 := Lib.hid (HN9.out.trans (hb10.mono (by simp; omega)))
            clear hs hz hT10 hb10 hx
            go_wp2_with fail
            refine ((r_Print _ Lx _ _ HT10.out (Nat.le_refl _) (by omega) HOX.out HLX2.out HSX2.out).mono fun _ _ h => pr_post h).mono ?_
            rintro e w11 ⟨rfl, hb11⟩
            rw [HZ.out.1, HZ.out.2]
            have HN11 := Lib.hid (HN10.out.trans (hb11.mono HN10.out.size))
            have hss : (s.toList == s.toList) = true := seq_true rfl
            clear hb11 hx10
            go_wp2_with fail
            go_roundw
            case measure => simp [intOf]; omega
            case rel => exact ⟨k + 1, by omega, by go_num, HN11.out⟩
          · have zi : ¬ (k : Int) < 4 := by omega
            have hbl : Below w.heap.size w wr := HOLD.out.trans (HBQ.out.mono HOLD.out.size)
            have HBL := Lib.hid hbl
            have HLX := Lib.hid (HL.out.later hbl)
            clear hbl
            go_wp2_with fail
            refine (f_awake _ HLX.out).mono ?_
            rintro e w12 ⟨rfl, hb12⟩
            have HB12 := Lib.hid (HBL.out.trans (hb12.mono HBL.out.size))
            clear hb12
            go_wp2_with fail
            go_ret
            exact ⟨rfl, HB12.out⟩
theorem f_prints (A : Option Addr) (n c : Nat) (A2 : Option Addr) (n2 c2 : Nat) (L : List Trm) (w : World) (hl : LibOk w) (hsp : SpcOk w) (hn : n ≤ 9223372036854775807) (har : n ≤ 500 → ArgL w (.slice A n c))
    (hT : TermsAt w (· < w.heap.size) (.slice A2 n2 c2) L) (hw : ∀ t ∈ L, TrmWide t) : Calls Tryz.prog 3 #[.slice A n c, .agg #[.slice A2 n2 c2]] w (AwkEnd w) := by
  by_cases h5 : n ≤ 500
  · by_cases h6 : n2 ≤ 40
    · exact f_prints_main A n c A2 n2 c2 L w hl hsp hn h5 (har h5) h6 hT hw
    · exact f_prints_long A n c A2 n2 c2 w hl hn h5 h6
  · exact f_prints_heavy A n c A2 n2 c2 w hl hn h5
end Go.Proofs.YthfmmememdlekaaGreatDoor
