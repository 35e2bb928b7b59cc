/- Contracts: the statement FormsValid. -/
import Derived.Test.YthfmmememdlekaaGreatDoorV32
import Derived.Test.YthfmmememdlekaaGreatDoorV42
import Derived.Test.YthfmmememdlekaaGreatDoorV43
import Derived.OpenShut
set_option linter.unusedVariables false
set_option linter.unusedSimpArgs false
namespace Go.Proofs.YthfmmememdlekaaGreatDoor
open Go.RowKit Num

theorem fv_alloc (w : World) (o : Obj) : Below w.heap.size w (w.alloc o) := (Below.refl _ _).alloc (Nat.le_refl _) o
set_option maxHeartbeats 400000 in
theorem fv_LightF (A : Option Addr) (n c : Nat) (w : World) (h : n ≤ 9223372036854775807) (h5 : ¬ n ≤ 500) : Calls Tryz.prog 6 #[.slice A n c] w fun e w' => e = .returned (.bool false) ∧ w = w' := by
  have := k_Light A n c w h
  rwa [decide_eq_false (by omega)] at this
theorem fv_LightT (A : Option Addr) (n c : Nat) (w : World) (h : n ≤ 9223372036854775807) (h5 : n ≤ 500) : Calls Tryz.prog 6 #[.slice A n c] w fun e w' => e = .returned (.bool true) ∧ w = w' := by
  have := k_Light A n c w h
  rwa [decide_eq_true (by omega)] at this
/-- Three forms in a literal. -/
def FvJ (W : World) (ab : Nat) : Prop := ∀ k, k < 3 → ∃ t A n c L, W.cell? ⟨ab, k * 2, none⟩ = some (.string t) ∧ W.cell? ⟨ab, k * 2 + 1, none⟩ = some (.slice A n c) ∧ FldsAt W (· < W.heap.size) (.slice A n c) L ∧ FormOk t L
theorem FvJ.below {W W' : World} {ab : Nat} (h : FvJ W ab) (hab : ab < W.heap.size) (hb : Below W.heap.size W W') : FvJ W' ab := fun k hk => by
  obtain ⟨t, A, n, c, L, h1, h2, h3, h4⟩ := h k hk
  exact ⟨t, A, n, c, L, (hb.cell (p := ⟨ab, k * 2, none⟩) hab).trans h1, (hb.cell (p := ⟨ab, k * 2 + 1, none⟩) hab).trans h2, (h3.keep fun b hB => hb.block b hB).mono fun b hB => Nat.lt_of_lt_of_le hB hb.size, h4⟩
theorem fvj_new {W : World} {d : Nat} {t0 t1 t2 : ByteArray} {A0 A1 A2 : Option Addr} {n0 n1 n2 c0 c1 c2 : Nat} {L0 L1 L2 : List Fld} (h0 : FldsAt W (fun b => b ≠ d ∧ b < W.heap.size) (.slice A0 n0 c0) L0) (h1 : FldsAt W (fun b => b ≠ d ∧ b < W.heap.size) (.slice A1 n1 c1) L1)
    (h2 : FldsAt W (fun b => b ≠ d ∧ b < W.heap.size) (.slice A2 n2 c2) L2) (k0 : FormOk t0 L0) (k1 : FormOk t1 L1) (k2 : FormOk t2 L2) : FvJ (W.alloc (.cells #[.string t0, .slice A0 n0 c0, .string t1, .slice A1 n1 c1, .string t2, .slice A2 n2 c2] 55)) W.heap.size := by
  have hb := Blk.new W 55 #[.string t0, .slice A0 n0 c0, .string t1, .slice A1 n1 c1, .string t2, .slice A2 n2 c2]
  have ht : ∀ (v : Value) (L : List Fld), FldsAt W (fun b => b ≠ d ∧ b < W.heap.size) v L → FldsAt (W.alloc (.cells #[.string t0, .slice A0 n0 c0, .string t1, .slice A1 n1 c1, .string t2, .slice A2 n2 c2] 55)) (· < (W.alloc (.cells #[.string t0, .slice A0 n0 c0, .string t1, .slice A1 n1 c1, .string t2, .slice A2 n2 c2] 55)).heap.size) v L :=
    fun v L h => (h.keep fun b hB => Below.heap_alloc _ _ _ hB.2).mono fun b hB => by have := hB.2; simp; omega
  intro k hk
  have h4 : k = 0 ∨ k = 1 ∨ k = 2 := by omega
  rcases h4 with rfl | rfl | rfl
  · exact ⟨t0, A0, n0, c0, L0, hb.cell 0, hb.cell 1, ht _ _ h0, k0⟩
  · exact ⟨t1, A1, n1, c1, L1, hb.cell 2, hb.cell 3, ht _ _ h1, k1⟩
  · exact ⟨t2, A2, n2, c2, L2, hb.cell 4, hb.cell 5, ht _ _ h2, k2⟩
/-- What the calls keep. -/
structure FvK (w : World) (d R : Nat) (tr vr : Value) (Lr : List Fld) (W : World) : Prop where
  dice : Dc W d
  rb : Blk W R 55 #[tr, vr]
  tr : FldsAt W (fun b => b ≠ d ∧ b < W.heap.size) vr Lr
  old : Below w.heap.size w W
  ne : R ≠ d ∧ w.heap.size ≤ d
section
variable {w W W' : World} {d R : Nat} {tr vr : Value} {Lr : List Fld}
theorem flds_dice {v : Value} {L : List Fld} (h : FldsAt W (fun b => b ≠ d ∧ b < W.heap.size) v L) (hg : W.grownBy W' (some d)) : FldsAt W' (fun b => b ≠ d ∧ b < W'.heap.size) v L :=
  (h.keep fun b hb => hg.block b hb.2 (fun e => hb.1 (Option.some.inj e))).mono fun b hb => ⟨hb.1, Nat.lt_of_lt_of_le hb.2 hg.size⟩
theorem FvK.grown (h : FvK w d R tr vr Lr W) (hd : Dc W' d) (hg : W.grownBy W' (some d)) : FvK w d R tr vr Lr W' :=
  ⟨hd, (hg.block R h.rb.lt (fun e => h.ne.1 (Option.some.inj e))).trans h.rb, flds_dice h.tr hg, h.old.grown hg h.old.size (fun g hg => by injection hg with hg; have := h.ne.2; omega), h.ne⟩
theorem FvK.alloc (h : FvK w d R tr vr Lr W) (o : Obj) : FvK w d R tr vr Lr (W.alloc o) := h.grown (h.dice.alloc o) (World.grownBy_alloc W o _)
theorem FvK.drew (h : FvK w d R tr vr Lr W) : FvK w d R tr vr Lr W.drew := ⟨h.dice, h.rb, h.tr, h.old.drew, h.ne⟩
theorem FvK.lim (h : FvK w d R tr vr Lr W) : W.cell? ⟨R, 0, none⟩ = some tr ∧ W.cell? ⟨R, 1, none⟩ = some vr ∧ Hid (FvK w d R tr vr Lr W) := ⟨(h.rb.cell 0).trans rfl, (h.rb.cell 1).trans rfl, Lib.hid h⟩
end
def FMade (w : World) (d R : Nat) (tr vr : Value) (Lr : List Fld) (W : World) (e : Ending) (W' : World) : Prop :=
  ∃ t A m c L, e = .returned (.agg #[.string t, .slice A m c]) ∧ FldsAt W' (fun b => b ≠ d ∧ b < W'.heap.size) (.slice A m c) L ∧ FormOk t L ∧ FvK w d R tr vr Lr W' ∧ W.grownBy W' (some d)
theorem form_call {w : World} {d R : Nat} {tr vr : Value} {Lr : List Fld} (W : World) (hK : FvK w d R tr vr Lr W) : Calls Tryz.prog 20 #[.pointer (some ⟨d, 0, none⟩)] W (FMade w d R tr vr Lr W) := by
  refine (k_Form d W hK.dice).mono ?_
  rintro e W' ⟨t, A, n, c, L, rfl, ht, hz, hl, hsm, hd, hg⟩
  have hlt := hK.dice.lt
  exact ⟨t, A, n, c, L, rfl, ht.mono (fun b hb => ⟨by omega, hb.2⟩), ⟨by omega, by omega, fun k hk => (hsm k hk).ok⟩, hK.grown hd hg, hg⟩
/-- What a round over a form keeps. -/
structure FvR (w w9 : World) (xb : Nat) (t : ByteArray) (v : Value) (L : List Fld) (W : World) : Prop where
  lib : LibOk W
  spc : SpcOk W
  blk : Blk W xb 55 #[.string t, v]
  tt : FldsAt W (· < W.heap.size) v L
  ok : FormOk t L
  old : Below w.heap.size w W
  nine : Below w9.heap.size w9 W
theorem FvR.step {w w9 W W' : World} {xb : Nat} {t : ByteArray} {v : Value} {L : List Fld} (h : FvR w w9 xb t v L W) (hb : Below W.heap.size W W') : FvR w w9 xb t v L W' :=
  ⟨h.lib.later hb, spc_below h.spc (by have := h.lib.size; show (0 : Nat) < _; omega) hb, h.blk.below' hb h.blk.lt, (h.tt.keep fun b hB => hb.block b hB).mono fun b hB => Nat.lt_of_lt_of_le hB hb.size, h.ok, h.old.trans (hb.mono h.old.size), h.nine.trans (hb.mono h.nine.size)⟩
theorem FvR.c0 {w w9 W : World} {xb : Nat} {t : ByteArray} {v : Value} {L : List Fld} (h : FvR w w9 xb t v L W) : W.cell? ⟨xb, 0, none⟩ = some (.string t) := (h.blk.cell 0).trans rfl
theorem FvR.c1 {w w9 W : World} {xb : Nat} {t : ByteArray} {v : Value} {L : List Fld} (h : FvR w w9 xb t v L W) : W.cell? ⟨xb, 1, none⟩ = some v := (h.blk.cell 1).trans rfl
theorem FvR.alloc {w w9 W : World} {xb : Nat} {t : ByteArray} {v : Value} {L : List Fld} (h : FvR w w9 xb t v L W) (o : Obj) : FvR w w9 xb t v L (W.alloc o) := h.step (fv_alloc W o)
theorem FvR.drew {w w9 W : World} {xb : Nat} {t : ByteArray} {v : Value} {L : List Fld} (h : FvR w w9 xb t v L W) : FvR w w9 xb t v L W.drew := h.step (Below.refl _ _).drew
theorem FvR.lim {w w9 W : World} {xb : Nat} {t : ByteArray} {v : Value} {L : List Fld} (h : FvR w w9 xb t v L W) : W.cell? ⟨xb, 0, none⟩ = some (.string t) ∧ W.cell? ⟨xb, 1, none⟩ = some v ∧ Hid (FvR w w9 xb t v L W) := ⟨h.c0, h.c1, Lib.hid h⟩
def fv12 : Nat → ByteArray := fun i => ([⟨#[97, 108, 108]⟩, ⟨#[111, 102]⟩, ⟨#[97, 95, 57]⟩, ⟨#[57, 97]⟩, ⟨#[95, 97]⟩, ⟨#[65]⟩, ⟨#[]⟩, ⟨#[97, 98]⟩, ⟨#[115, 97, 121, 115]⟩, ⟨#[110, 111, 116, 102, 105, 114, 115, 116]⟩, ⟨#[97, 98, 99, 100, 101, 102, 103, 104, 105, 106, 107, 108, 109, 110, 111, 112, 113, 114, 115, 116, 117, 118, 119, 120, 121, 122, 97, 98, 99, 100, 101, 102]⟩, ⟨#[97, 98, 99, 100, 101, 102, 103, 104, 105, 106, 107, 108, 109, 110, 111, 112, 113, 114, 115, 116, 117, 118, 119, 120, 121, 122, 97, 98, 99, 100, 101, 102, 103]⟩] : List ByteArray).getD i ⟨#[]⟩
theorem fv12_small (i : Nat) : (fv12 i).size ≤ 100 := by
  unfold fv12
  match i with
  | 0 | 1 | 2 | 3 | 4 | 5 | 6 | 7 | 8 | 9 | 10 | 11 => decide
  | k + 12 => simp [List.getD]; exact Nat.zero_le _
/-- A raw field that is passed on. -/
def FldSml (f : Fld) : Prop := f.opts.length ≤ 20 ∧ f.name.size ≤ 100
theorem raw_ok {t : ByteArray} {L : List Fld} (ht : t.size ≤ 1000) (hl : L.length ≤ 40) (hs : ∀ k, k < L.length → FldSml (fldAt L k)) (hw : ∀ f ∈ L, FldWide f) : FormOk t L := by
  refine ⟨by omega, by omega, fun k hk => ?_⟩
  have hm : fldAt L k ∈ L := by
    unfold fldAt
    rw [List.getD_eq_getElem?_getD, List.getElem?_eq_getElem hk]
    exact List.getElem_mem hk
  obtain ⟨w0, w1, w2, w3, w4, w5⟩ := hw _ hm
  obtain ⟨s1, s2⟩ := hs k hk
  have b1 := bounds_i64 w2
  have b2 := bounds_i64 w3
  have b3 := bounds_i64 w4
  exact ⟨by omega, by omega, by omega, by omega, by omega, by omega, by omega, by omega, fun s hs => w5 s hs⟩
set_option maxRecDepth 100000 in
set_option maxHeartbeats 400000 in
theorem f_valid_heavy (A : Option Addr) (n c : Nat) (t s : ByteArray) (A2 : Option Addr) (n2 c2 : Nat) (w : World) (hl : LibOk w) (hn : n ≤ 9223372036854775807) (h5 : ¬ n ≤ 500) : Calls Tryz.prog 5 #[.slice A n c, .agg #[.string t, .slice A2 n2 c2], .string s] w (AwkEnd w) := by
  have HB := Lib.hid (fv_alloc w (.cells #[.string t, .slice A2 n2 c2] 55))
  have HL := Lib.hid (hl.later HB.out)
  clear hl
  go_enter Tryz.func5, Tryz.ntmps5
  go_wp2_with fail
  refine (fv_LightF A n c _ hn h5).mono ?_
  rintro e w1 ⟨rfl, rfl⟩
  go_wp2_with fail
  refine (f_awake _ HL.out).mono ?_
  rintro e w2 ⟨rfl, hb2⟩
  have HB2 := Lib.hid (HB.out.trans (hb2.mono (by simp)))
  clear hb2
  go_wp2_with fail
  go_ret
  exact ⟨rfl, HB2.out⟩
set_option maxRecDepth 100000 in
set_option maxHeartbeats 400000 in
theorem f_valid_long (A : Option Addr) (n c : Nat) (t s : ByteArray) (A2 : Option Addr) (n2 c2 : Nat) (w : World) (hl : LibOk w) (hn : n ≤ 9223372036854775807) (h5 : n ≤ 500) (h6 : ¬ n2 ≤ 40) : Calls Tryz.prog 5 #[.slice A n c, .agg #[.string t, .slice A2 n2 c2], .string s] w (AwkEnd w) := by
  have HB := Lib.hid (fv_alloc w (.cells #[.string t, .slice A2 n2 c2] 55))
  have HL := Lib.hid (hl.later HB.out)
  have z1 : (40 : Int) < (n2 : Int) := by omega
  clear hl
  go_enter Tryz.func5, Tryz.ntmps5
  go_wp2_with fail
  refine (fv_LightT A n c _ hn h5).mono ?_
  rintro e w1 ⟨rfl, rfl⟩
  go_wp2_with fail
  refine (f_awake _ HL.out).mono ?_
  rintro e w2 ⟨rfl, hb2⟩
  have HB2 := Lib.hid (HB.out.trans (hb2.mono (by simp)))
  clear hb2
  go_wp2_with fail
  go_ret
  exact ⟨rfl, HB2.out⟩
set_option maxRecDepth 100000 in
set_option maxHeartbeats 400000 in
theorem f_valid_title (A : Option Addr) (n c : Nat) (t s : ByteArray) (A2 : Option Addr) (n2 c2 : Nat) (w : World) (hl : LibOk w) (hn : n ≤ 9223372036854775807) (h5 : n ≤ 500) (h6 : n2 ≤ 40) (h7 : ¬ t.size ≤ 1000) : Calls Tryz.prog 5 #[.slice A n c, .agg #[.string t, .slice A2 n2 c2], .string s] w (AwkEnd w) := by
  have HB := Lib.hid (fv_alloc w (.cells #[.string t, .slice A2 n2 c2] 55))
  have HL := Lib.hid (hl.later HB.out)
  have z1 : ¬ (40 : Int) < (n2 : Int) := by omega
  have z2 : (1000 : Int) < (t.size : Int) := by omega
  clear hl
  go_enter Tryz.func5, Tryz.ntmps5
  go_wp2_with fail
  refine (fv_LightT A n c _ hn h5).mono ?_
  rintro e w1 ⟨rfl, rfl⟩
  go_wp2_with fail
  refine (f_awake _ HL.out).mono ?_
  rintro e w2 ⟨rfl, hb2⟩
  have HB2 := Lib.hid (HB.out.trans (hb2.mono (by simp)))
  clear hb2
  go_wp2_with fail
  go_ret
  exact ⟨rfl, HB2.out⟩
set_option maxRecDepth 100000 in
set_option maxHeartbeats 400000 in
theorem f_valid_name (A : Option Addr) (n c : Nat) (t s : ByteArray) (A2 : Option Addr) (n2 c2 : Nat) (w : World) (hl : LibOk w) (hn : n ≤ 9223372036854775807) (h5 : n ≤ 500) (h6 : n2 ≤ 40) (h7 : t.size ≤ 1000) (h8 : ¬ s.size ≤ 100) : Calls Tryz.prog 5 #[.slice A n c, .agg #[.string t, .slice A2 n2 c2], .string s] w (AwkEnd w) := by
  have HB := Lib.hid (fv_alloc w (.cells #[.string t, .slice A2 n2 c2] 55))
  have HL := Lib.hid (hl.later HB.out)
  have z1 : ¬ (40 : Int) < (n2 : Int) := by omega
  have z2 : ¬ (1000 : Int) < (t.size : Int) := by omega
  have z3 : (100 : Int) < (s.size : Int) := by omega
  clear hl
  go_enter Tryz.func5, Tryz.ntmps5
  go_wp2_with fail
  refine (fv_LightT A n c _ hn h5).mono ?_
  rintro e w1 ⟨rfl, rfl⟩
  go_wp2_with fail
  refine (f_awake _ HL.out).mono ?_
  rintro e w2 ⟨rfl, hb2⟩
  have HB2 := Lib.hid (HB.out.trans (hb2.mono (by simp)))
  clear hb2
  go_wp2_with fail
  go_ret
  exact ⟨rfl, HB2.out⟩
set_option maxRecDepth 100000 in
set_option maxHeartbeats 16000000 in
theorem f_valid_main (A : Option Addr) (n c : Nat) (t s : ByteArray) (A2 : Option Addr) (n2 c2 : Nat) (L : List Fld) (w : World) (hl : LibOk w) (hsp : SpcOk w) (hn : n ≤ 9223372036854775807) (h5 : n ≤ 500) (har : ArgL w (.slice A n c)) (h6 : n2 ≤ 40) (h7 : t.size ≤ 1000) (h8 : s.size ≤ 100)
    (hT : FldsAt w (· < w.heap.size) (.slice A2 n2 c2) L) (hw : ∀ f ∈ L, FldWide f) : Calls Tryz.prog 5 #[.slice A n c, .agg #[.string t, .slice A2 n2 c2], .string s] w (AwkEnd w) := by
  have hb0 := fv_alloc w (.cells #[.string t, .slice A2 n2 c2] 55)
  obtain ⟨hn2, hc4⟩ : n2 = L.length ∧ (0 < n2 → ∃ b off, A2 = some ⟨b, off, none⟩ ∧ b < w.heap.size ∧ ∀ k, k < n2 → FldAt w (· < w.heap.size) b (off + k * 6) (fldAt L k)) := by
    obtain ⟨A', n', c', he, h1, h2, h3⟩ := id hT
    injection he with e1 e2 e3
    subst e1 e2 e3
    exact ⟨h1, h3⟩
  have HB0 := Lib.hid hb0
  have HL := Lib.hid hl
  have HSP := Lib.hid hsp
  have HAR := Lib.hid har
  have HT := Lib.hid hT
  have HW := Lib.hid hw
  have HN2 := Lib.hid hn2
  have HC4 := Lib.hid hc4
  have HR := Lib.hid (Blk.new w 55 #[.string t, .slice A2 n2 c2])
  have hsz0 : (w.alloc (.cells #[.string t, .slice A2 n2 c2] 55)).heap.size = w.heap.size + 1 := by simp
  have z1 : ¬ (40 : Int) < (n2 : Int) := by omega
  have z2 : ¬ (1000 : Int) < (t.size : Int) := by omega
  have z3 : ¬ (100 : Int) < (s.size : Int) := by omega
  clear hl hsp har hT hw hn2 hc4 hb0
  go_enter Tryz.func5, Tryz.ntmps5
  go_wp2_with fail
  refine (fv_LightT A n c _ hn h5).mono ?_
  rintro e w1 ⟨rfl, rfl⟩
  go_wp2_with fail
  obtain ⟨w1, hw1⟩ : ∃ w1, w.alloc (.cells #[.string t, .slice A2 n2 c2] 55) = w1 := ⟨_, rfl⟩
  rw [hw1] at HB0 HR hsz0 ⊢
  clear hw1 z1 z2 z3
  go_loopw [48] (fun v48 wr => ∃ k : Nat, k ≤ n2 ∧ v48 = .int .i64 (k : Int) ∧ Below w1.heap.size w1 wr ∧ ∀ j, j < k → FldSml (fldAt L j)) (fun v48 _ => n2 - (intOf v48).toNat)
  case atStart => exact ⟨0, by omega, rfl, Below.refl _ _, fun j hj => absurd hj (by omega)⟩
  case round =>
    obtain ⟨k, hk, rfl, hbr, hsm⟩ := hrel
    have hszr := hbr.size
    have HBR := Lib.hid hbr
    have HSM := Lib.hid hsm
    clear hbr hsm
    by_cases hlt : k < n2
    · obtain ⟨b, off, rfl, hbw, hc⟩ := HC4.out (by omega)
      have hct := hc k hlt
      have hmem : fldAt L k ∈ L := by
        have hk' : k < L.length := by have := HN2.out; omega
        unfold fldAt
        rw [List.getD_eq_getElem?_getD, List.getElem?_eq_getElem hk']
        exact List.getElem_mem hk'
      have hwd := HW.out _ hmem
      have hfin : FldSml (fldAt L k) → ∀ j, j < k + 1 → FldSml (fldAt L j) := fun h j hj => by
        by_cases e : j = k
        · subst e; exact h
        · exact HSM.out j (by omega)
      have HFIN := Lib.hid hfin
      clear hmem hfin hc
      obtain ⟨f, hf⟩ : ∃ f, fldAt L k = f := ⟨_, rfl⟩
      rw [hf] at hct hwd HFIN
      clear hf
      obtain ⟨nm, kd, nd, le, mo, op⟩ := f
      obtain ⟨c0, c1, c2', c3, c4, u, c5, hu⟩ := hct
      obtain ⟨Au, nu, cu, rfl, hnu, hcu, -⟩ := hu
      have hbl : Below w.heap.size w wr := HB0.out.trans (HBR.out.mono (by omega))
      have e0 : wr.cell? ⟨b, off + k * 6, none⟩ = _ := (hbl.cell (p := ⟨b, off + k * 6, none⟩) hbw).trans c0
      have e1 : wr.cell? ⟨b, off + k * 6 + 1, none⟩ = _ := (hbl.cell (p := ⟨b, off + k * 6 + 1, none⟩) hbw).trans c1
      have e2 : wr.cell? ⟨b, off + k * 6 + 2, none⟩ = _ := (hbl.cell (p := ⟨b, off + k * 6 + 2, none⟩) hbw).trans c2'
      have e3 : wr.cell? ⟨b, off + k * 6 + 3, none⟩ = _ := (hbl.cell (p := ⟨b, off + k * 6 + 3, none⟩) hbw).trans c3
      have e4 : wr.cell? ⟨b, off + k * 6 + 4, none⟩ = _ := (hbl.cell (p := ⟨b, off + k * 6 + 4, none⟩) hbw).trans c4
      have e5 : wr.cell? ⟨b, off + k * 6 + 5, none⟩ = _ := (hbl.cell (p := ⟨b, off + k * 6 + 5, none⟩) hbw).trans c5
      have hbx : Below w.heap.size w (wr.alloc (.cells #[.string nm, .int .i64 kd, .bool nd, .int .i64 le, .int .i64 mo, .slice Au nu cu] 58)) := hbl.alloc (by omega) _
      have HLX := Lib.hid (HL.out.later hbx)
      have HBX := Lib.hid hbx
      have hbr2 : Below w1.heap.size w1 (wr.alloc (.cells #[.string nm, .int .i64 kd, .bool nd, .int .i64 le, .int .i64 mo, .slice Au nu cu] 58)) := HBR.out.alloc hszr _
      have HBR2 := Lib.hid hbr2
      have hwa : nu ≤ 9223372036854775807 := by have := hwd.2.1; simp only [maxLen] at this; simp only at hnu; omega
      have hwf : nm.size ≤ 9223372036854775807 := hwd.1
      have HNU := Lib.hid hnu
      clear c0 c1 c2' c3 c4 c5 hbl hbx hbr2 hwd hnu hcu
      have zi : (k : Int) < (n2 : Int) := by omega
      have z0 : (0 : Int) ≤ (k : Int) := by omega
      by_cases g1 : nu ≤ 20
      · have d1 : ¬ (20 : Int) < (nu : Int) := by omega
        by_cases g2 : nm.size ≤ 100
        · have d2 : ¬ (100 : Int) < (nm.size : Int) := by omega
          go_wp2_with fail
          go_roundw
          case measure => simp [intOf]; omega
          case rel => exact ⟨k + 1, by omega, by go_num, HBR2.out, HFIN.out ⟨by have := HNU.out; show op.length ≤ 20; simp only at this; omega, g2⟩⟩
        · have d2 : (100 : Int) < (nm.size : Int) := by omega
          go_wp2_with fail
          refine (f_awake _ HLX.out).mono ?_
          rintro e w2 ⟨rfl, hb2⟩
          have HB2 := Lib.hid (HBX.out.trans (hb2.mono (by simp; omega)))
          clear hb2
          go_wp2_with fail
          go_ret
          exact ⟨rfl, HB2.out⟩
      · have d1 : (20 : Int) < (nu : Int) := by omega
        go_wp2_with fail
        refine (f_awake _ HLX.out).mono ?_
        rintro e w2 ⟨rfl, hb2⟩
        have HB2 := Lib.hid (HBX.out.trans (hb2.mono (by simp; omega)))
        clear hb2
        go_wp2_with fail
        go_ret
        exact ⟨rfl, HB2.out⟩
    · have zi : ¬ (k : Int) < (n2 : Int) := by omega
      have hall : FormOk t L := raw_ok h7 (by have := HN2.out; omega) (fun j hj => HSM.out j (by have := HN2.out; omega)) HW.out
      have HALL := Lib.hid hall
      have hbl : Below w.heap.size w wr := HB0.out.trans (HBR.out.mono (by omega))
      have harr : ArgL wr (.slice A n c) := by
        obtain ⟨A', n', c', LL, he, q1, q2⟩ := HAR.out
        injection he with e1 e2 e3
        subst e1 e2 e3
        refine ⟨_, _, _, LL, rfl, q1, fun hn0 => ?_⟩
        obtain ⟨b0, off, e, hb, hcc⟩ := q2 hn0
        exact ⟨b0, off, e, by have := hbl.size; omega, fun i hi => (hbl.cell (p := ⟨b0, off + i, none⟩) hb).trans (hcc i hi)⟩
      have HARR := Lib.hid harr
      have hRr := HR.out.below' HBR.out HR.out.lt
      have HRr := Lib.hid hRr
      have HBL := Lib.hid hbl
      clear hall hbl harr hRr HC4 HW HN2
      go_wp2_with fail
      refine (k_Roll _ _ HARR.out).mono ?_
      rintro e w3 ⟨rfl, hd3, hb3⟩
      have hs3 := hd3.lt
      have hR3 : Blk w3 w.heap.size 55 #[.string t, .slice A2 n2 c2] := (hb3.block _ (by omega)).trans HRr.out
      have hold3 : Below w.heap.size w w3 := HBL.out.trans (hb3.mono (by omega))
      have hK : FvK w wr.heap.size w.heap.size (.string t) (.slice A2 n2 c2) L w3 :=
        ⟨hd3, hR3, (HT.out.keep fun b hb => hold3.block b hb).mono fun b hb => ⟨by omega, by omega⟩, hold3, by omega, by omega⟩
      have HK := Lib.hid hK
      have hr0 := (hK.rb.cell 0).trans (show _ = some (Value.string t) from rfl)
      have hr1 := (hK.rb.cell 1).trans (show _ = some (Value.slice A2 n2 c2) from rfl)
      clear hd3 hR3 hold3 hK hb3 HRr HARR HAR HT HR HBR HB0
      go_upto_region 10 with fail
      obtain ⟨d, hdd⟩ : ∃ d, wr.heap.size = d := ⟨_, rfl⟩
      rw [hdd] at HK ⊢
      clear hdd
      obtain ⟨R, hR⟩ : ∃ R, w.heap.size = R := ⟨_, rfl⟩
      rw [hR] at HK hr0 hr1 ⊢
      have HRR := Lib.hid hR
      clear hR
      go_region_held3 (fun W => W.cell? ⟨R, 0, none⟩ = some (.string t) ∧ W.cell? ⟨R, 1, none⟩ = some (.slice A2 n2 c2) ∧ Hid (FvK w d R (.string t) (.slice A2 n2 c2) L W))
        (first
          | with_reducible exact HK.out.drew.lim
          | with_reducible exact HP6.out.lim
          | with_reducible exact HP7.out.lim
          | with_reducible exact (HP7.out.alloc _).lim)
        (first
          | (go_at_call 20; ((with_reducible refine (form_call _ HK.out.drew).mono ?_); rintro e w6 ⟨t6, A6, n6, c6, L6, rfl, ht6, hok6, hK6, hg6⟩; have HP6 := Lib.hid hK6; have HT6 := Lib.hid ht6; have HO6 := Lib.hid hok6; clear ht6 hok6 hK6 hg6))
          | (go_at_call 20; ((with_reducible refine (form_call _ HP6.out).mono ?_); rintro e w7 ⟨t7, A7, n7, c7, L7, rfl, ht7, hok7, hK7, hg7⟩; have HP7 := Lib.hid hK7; have HT7 := Lib.hid ht7; have HO7 := Lib.hid hok7; have HT67 := Lib.hid (flds_dice HT6.out hg7); clear ht7 hok7 hK7 hg7)))
      all_goals
        have hJ := fvj_new HT67.out HP7.out.tr HT7.out HO6.out HALL.out HO7.out
        have hold8 := HP7.out.old.alloc HP7.out.old.size (.cells #[.string t6, .slice A6 n6 c6, .string t, .slice A2 n2 c2, .string t7, .slice A7 n7 c7] 55)
        have hd8 := HP7.out.dice.alloc (.cells #[.string t6, .slice A6 n6 c6, .string t, .slice A2 n2 c2, .string t7, .slice A7 n7 c7] 55)
        have hnd := HP7.out.ne.2
        have hab : w7.heap.size < (w7.alloc (.cells #[.string t6, .slice A6 n6 c6, .string t, .slice A2 n2 c2, .string t7, .slice A7 n7 c7] 55)).heap.size := by simp
        have HJ := Lib.hid hJ
        have HOLD := Lib.hid hold8
        have HD8 := Lib.hid hd8
        clear hJ hold8 hd8
        go_wp2_with fail
        obtain ⟨w9, hw9⟩ : ∃ w9, w7.alloc (.cells #[.string t6, .slice A6 n6 c6, .string t, .slice A2 n2 c2, .string t7, .slice A7 n7 c7] 55) = w9 := ⟨_, rfl⟩
        obtain ⟨ab, hab2⟩ : ∃ ab, w7.heap.size = ab := ⟨_, rfl⟩
        rw [hw9, hab2] at HJ hab
        rw [hw9] at HOLD HD8
        rw [hw9, hab2]
        clear hw9 hab2 HP7 HP6 HK HT6 HT67 HT7 HO6 HO7 HALL HBL HSM
        go_loopw [73] (fun v73 wq => ∃ k : Nat, k ≤ 3 ∧ v73 = .int .i64 (k : Int) ∧ Below w9.heap.size w9 wq) (fun v73 _ => 3 - (intOf v73).toNat)
        case atStart => exact ⟨0, by omega, rfl, Below.refl _ _⟩
        case round =>
          obtain ⟨k, hk4, rfl, hbq⟩ := hrel
          have hszq := hbq.size
          have HBQ := Lib.hid hbq
          clear hbq
          by_cases hlt4 : k < 3
          · obtain ⟨tx, Ax, nx, cx, Lx, hx0, hx1, hTx, hokx⟩ := (HJ.out.below hab HBQ.out) k hlt4
            have hb1 : Below wr.heap.size wr (wr.alloc (.cells #[.string tx, .slice Ax nx cx] 55)) := fv_alloc _ _
            have hT1 : FldsAt (wr.alloc (.cells #[.string tx, .slice Ax nx cx] 55)) (· < (wr.alloc (.cells #[.string tx, .slice Ax nx cx] 55)).heap.size) (.slice Ax nx cx) Lx := (hTx.keep fun b hb => hb1.block b hb).mono fun b hb => Nat.lt_of_lt_of_le hb hb1.size
            have hbl : Below w.heap.size w (wr.alloc (.cells #[.string tx, .slice Ax nx cx] 55)) := (HOLD.out.trans (HBQ.out.mono HOLD.out.size)).trans (hb1.mono (by have := HOLD.out.size; omega))
            have hn9 : Below w9.heap.size w9 (wr.alloc (.cells #[.string tx, .slice Ax nx cx] 55)) := HBQ.out.trans (hb1.mono hszq)
            have hX := Blk.new wr 55 #[.string tx, .slice Ax nx cx]
            -- all that the round keeps
            have hkeep : FvR w w9 wr.heap.size tx (.slice Ax nx cx) Lx (wr.alloc (.cells #[.string tx, .slice Ax nx cx] 55)) := ⟨HL.out.later hbl, spc_below HSP.out (by have := HL.out.size; show (0 : Nat) < _; omega) hbl, hX, hT1, hokx, hbl, hn9⟩
            have HQ1 := Lib.hid hkeep
            have zi : (k : Int) < 3 := by omega
            have z0 : (0 : Int) ≤ (k : Int) := by omega
            clear hTx hb1 hT1 hbl hokx hn9 hX hkeep
            go_wp2_with fail
            refine (f_Digest tx _ Lx _ _ HQ1.out.tt (fun b hb => hb) HQ1.out.ok).mono ?_
            rintro e w10 ⟨he, hb10⟩
            obtain ⟨zs, hzs⟩ : ∃ zs, dgS tx Lx = zs := ⟨_, rfl⟩
            obtain ⟨zz, hzz⟩ : ∃ zz, dgZ tx Lx = zz := ⟨_, rfl⟩
            rw [hzs, hzz] at he
            subst he
            have HZ := Lib.hid (And.intro hzs hzz)
            have HQ2 := Lib.hid (HQ1.out.step hb10)
            have hx2 := HQ2.out.c0
            have hx3 := HQ2.out.c1
            clear hzs hzz hb10 hx0 hx1
            go_wp2_with fail
            refine (r_Digest tx _ Lx _ _ HQ2.out.tt (fun b hb => hb) HQ2.out.ok HQ2.out.lib HQ2.out.spc).mono ?_
            rintro e w11 ⟨he, hb11⟩
            rw [HZ.out.1, HZ.out.2] at he
            subst he
            have HQ3 := Lib.hid (HQ2.out.step hb11)
            have hx4 := HQ3.out.c0
            have hx5 := HQ3.out.c1
            have hss : (zs.toList == zs.toList) = true := seq_true rfl
            clear hx2 hx3 hb11
            go_upto_region 15 with fail
            obtain ⟨xb, hxb⟩ : ∃ xb, wr.heap.size = xb := ⟨_, rfl⟩
            rw [hxb] at HQ3 hx4 hx5 ⊢
            have HXB := Lib.hid hxb
            clear hxb HQ1 HQ2
            obtain ⟨vb, hvb⟩ : ∃ vb, validB tx Lx = vb := ⟨_, rfl⟩
            have hv1 : ∀ W, FvR w w9 xb tx (.slice Ax nx cx) Lx W → Calls Tryz.prog 23 #[.agg #[.string tx, .slice Ax nx cx]] W fun e W' => e = .returned (.bool vb) ∧ FvR w w9 xb tx (.slice Ax nx cx) Lx W' := fun W h =>
              (f_Valid tx _ Lx _ W h.tt (fun b hb => hb) h.ok).mono fun e W' hh => by
                obtain ⟨h1, h2⟩ := hh
                rw [hvb] at h1
                exact ⟨h1, h.step h2⟩
            have hv2 : ∀ W, FvR w w9 xb tx (.slice Ax nx cx) Lx W → Calls Tryz.prog 24 #[.agg #[.string tx, .slice Ax nx cx]] W fun e W' => e = .returned (.bool vb) ∧ FvR w w9 xb tx (.slice Ax nx cx) Lx W' := fun W h =>
              (r_ValidF tx _ Lx _ W h.tt (fun b hb => hb) h.ok h.lib h.spc).mono fun e W' hh => by
                obtain ⟨h1, h2⟩ := hh
                rw [hvb] at h1
                exact ⟨h1, h.step h2⟩
            have HV1 := Lib.hid hv1
            have HV2 := Lib.hid hv2
            clear hv1 hv2 hvb
            go_region_held3 (fun W => W.cell? ⟨xb, 0, none⟩ = some (.string tx) ∧ W.cell? ⟨xb, 1, none⟩ = some (.slice Ax nx cx) ∧ Hid (FvR w w9 xb tx (.slice Ax nx cx) Lx W))
              (first
                | with_reducible exact HQ3.out.drew.lim
                | with_reducible exact HQ4.out.lim
                | with_reducible exact HQ5.out.lim)
              (first
                | (go_at_call 23; ((with_reducible refine (HV1.out _ HQ3.out.drew).mono ?_); rintro e w12 ⟨rfl, hQ4⟩; have HQ4 := Lib.hid hQ4; clear hQ4))
                | (go_at_call 24; ((with_reducible refine (HV2.out _ HQ4.out).mono ?_); rintro e w13 ⟨rfl, hQ5⟩; have HQ5 := Lib.hid hQ5; clear hQ5)))
            all_goals
              have hvv : (vb == vb) = true := by simp
              have hx6 := HQ5.out.c0
              have hx7 := HQ5.out.c1
              clear hx4 hx5 HQ3 HQ4 HV1 HV2
              go_wp2_with fail
              have hS4 := Blk.new w13 9 #[.string s, .string ⟨#[119, 104, 97, 116]⟩, .string ⟨#[107, 105, 110, 100]⟩, .string ⟨#[117, 110, 116, 105, 108]⟩]
              have hQ6 := HQ5.out.alloc (.cells #[.string s, .string ⟨#[119, 104, 97, 116]⟩, .string ⟨#[107, 105, 110, 100]⟩, .string ⟨#[117, 110, 116, 105, 108]⟩] 9)
              obtain ⟨w14, hw14⟩ : ∃ w14, w13.alloc (.cells #[.string s, .string ⟨#[119, 104, 97, 116]⟩, .string ⟨#[107, 105, 110, 100]⟩, .string ⟨#[117, 110, 116, 105, 108]⟩] 9) = w14 := ⟨_, rfl⟩
              rw [hw14] at hS4 hQ6 ⊢
              obtain ⟨sb, hsb⟩ : ∃ sb, w13.heap.size = sb := ⟨_, rfl⟩
              rw [hsb] at hS4 ⊢
              have hstr : ∀ i, i < 4 → ∃ x : ByteArray, w14.cell? ⟨sb, i, none⟩ = some (.string x) ∧ x.size ≤ 100 := fun i hi => by
                have h4 : i = 0 ∨ i = 1 ∨ i = 2 ∨ i = 3 := by omega
                rcases h4 with rfl | rfl | rfl | rfl
                · exact ⟨_, hS4.cell 0, h8⟩
                · exact ⟨_, hS4.cell 1, by decide⟩
                · exact ⟨_, hS4.cell 2, by decide⟩
                · exact ⟨_, hS4.cell 3, by decide⟩
              have hsl4 := hS4.lt
              have HSTR := Lib.hid hstr
              have HQ6 := Lib.hid hQ6
              clear hw14 hsb hstr hS4 hQ6 HQ5 hx6 hx7
              go_loopw [105] (fun v105 wx => ∃ i : Nat, i ≤ 4 ∧ v105 = .int .i64 (i : Int) ∧ Below w14.heap.size w14 wx) (fun v105 _ => 4 - (intOf v105).toNat)
              case atStart => exact ⟨0, by omega, rfl, Below.refl _ _⟩
              case round =>
                rename World => wx
                obtain ⟨i, hi4, rfl, hbx⟩ := hrel
                have HBX := Lib.hid hbx
                have hszx := hbx.size
                clear hbx
                have HQ7 := Lib.hid (HQ6.out.step HBX.out)
                by_cases hlt5 : i < 4
                · obtain ⟨x, hx, hxz⟩ := HSTR.out i hlt5
                  have hx' : wx.cell? ⟨sb, i, none⟩ = some (.string x) := (HBX.out.cell (p := ⟨sb, i, none⟩) hsl4).trans hx
                  have hx6 := HQ7.out.c0
                  have hx7 := HQ7.out.c1
                  have zj : (i : Int) < 4 := by omega
                  have zj0 : (0 : Int) ≤ (i : Int) := by omega
                  clear hx
                  go_wp2_with fail
                  refine (f_Find tx x _ Lx _ _ HQ7.out.tt (fun b hb => hb) HQ7.out.ok.2.1).mono ?_
                  rintro e w15 ⟨he, hb15⟩
                  obtain ⟨fk, hfk⟩ : ∃ fk : Nat, (fstF Lx x).getD 0 = fk := ⟨_, rfl⟩
                  obtain ⟨fb, hfb⟩ : ∃ fb : Bool, (fstF Lx x).isSome = fb := ⟨_, rfl⟩
                  rw [hfk, hfb] at he
                  subst he
                  have HF := Lib.hid (And.intro hfk hfb)
                  have HQ8 := Lib.hid (HQ7.out.step hb15)
                  have HB15 := Lib.hid (HBX.out.trans (hb15.mono hszx))
                  have hx8 := HQ8.out.c0
                  have hx9 := HQ8.out.c1
                  clear hfk hfb hb15 hx6 hx7
                  go_wp2_with fail
                  refine (r_Find tx x _ Lx _ _ HQ8.out.tt (fun b hb => hb) HQ8.out.ok.2.1).mono ?_
                  rintro e w16 ⟨he, hb16⟩
                  rw [HF.out.1, HF.out.2] at he
                  subst he
                  have HB16 := Lib.hid (HB15.out.trans (hb16.mono HB15.out.size))
                  have hkk : ((fk : Int) == (fk : Int)) = true := by simp
                  have hbb : (fb == fb) = true := by simp
                  clear hb16 hx8 hx9
                  go_wp2_with fail
                  go_roundw
                  case measure => simp [intOf]; omega
                  case rel => exact ⟨i + 1, by omega, by go_num, HB16.out⟩
                · have zj : ¬ (i : Int) < 4 := by omega
                  have HN9 := Lib.hid HQ7.out.nine
                  go_wp2_with fail
                  go_roundw
                  case measure => simp [intOf]; omega
                  case rel => exact ⟨k + 1, by omega, by go_num, HN9.out⟩
          · have zi : ¬ (k : Int) < 3 := by omega
            have hbl : Below w.heap.size w wr := HOLD.out.trans (HBQ.out.mono HOLD.out.size)
            have hdr : Dc wr d := HD8.out.below HBQ.out HD8.out.lt
            have HBL := Lib.hid hbl
            have hdr2 := hdr.alloc (.cells #[.string ⟨#[97, 108, 108]⟩, .string ⟨#[111, 102]⟩, .string ⟨#[97, 95, 57]⟩, .string ⟨#[57, 97]⟩, .string ⟨#[95, 97]⟩, .string ⟨#[65]⟩, .string ⟨#[]⟩, .string ⟨#[97, 98]⟩, .string ⟨#[115, 97, 121, 115]⟩, .string ⟨#[110, 111, 116, 102, 105, 114, 115, 116]⟩, .string ⟨#[97, 98, 99, 100, 101, 102, 103, 104, 105, 106, 107, 108, 109, 110, 111, 112, 113, 114, 115, 116, 117, 118, 119, 120, 121, 122, 97, 98, 99, 100, 101, 102]⟩, .string ⟨#[97, 98, 99, 100, 101, 102, 103, 104, 105, 106, 107, 108, 109, 110, 111, 112, 113, 114, 115, 116, 117, 118, 119, 120, 121, 122, 97, 98, 99, 100, 101, 102, 103]⟩] 9)
            have hb12 : Blk (wr.alloc (.cells #[.string ⟨#[97, 108, 108]⟩, .string ⟨#[111, 102]⟩, .string ⟨#[97, 95, 57]⟩, .string ⟨#[57, 97]⟩, .string ⟨#[95, 97]⟩, .string ⟨#[65]⟩, .string ⟨#[]⟩, .string ⟨#[97, 98]⟩, .string ⟨#[115, 97, 121, 115]⟩, .string ⟨#[110, 111, 116, 102, 105, 114, 115, 116]⟩, .string ⟨#[97, 98, 99, 100, 101, 102, 103, 104, 105, 106, 107, 108, 109, 110, 111, 112, 113, 114, 115, 116, 117, 118, 119, 120, 121, 122, 97, 98, 99, 100, 101, 102]⟩, .string ⟨#[97, 98, 99, 100, 101, 102, 103, 104, 105, 106, 107, 108, 109, 110, 111, 112, 113, 114, 115, 116, 117, 118, 119, 120, 121, 122, 97, 98, 99, 100, 101, 102, 103]⟩] 9)) wr.heap.size 9 #[.string ⟨#[97, 108, 108]⟩, .string ⟨#[111, 102]⟩, .string ⟨#[97, 95, 57]⟩, .string ⟨#[57, 97]⟩, .string ⟨#[95, 97]⟩, .string ⟨#[65]⟩, .string ⟨#[]⟩, .string ⟨#[97, 98]⟩, .string ⟨#[115, 97, 121, 115]⟩, .string ⟨#[110, 111, 116, 102, 105, 114, 115, 116]⟩, .string ⟨#[97, 98, 99, 100, 101, 102, 103, 104, 105, 106, 107, 108, 109, 110, 111, 112, 113, 114, 115, 116, 117, 118, 119, 120, 121, 122, 97, 98, 99, 100, 101, 102]⟩, .string ⟨#[97, 98, 99, 100, 101, 102, 103, 104, 105, 106, 107, 108, 109, 110, 111, 112, 113, 114, 115, 116, 117, 118, 119, 120, 121, 122, 97, 98, 99, 100, 101, 102, 103]⟩] := Blk.new wr _ _
            have hdl := hdr.lt
            have hbs := hbl.size
            clear hbl HJ HBQ
            go_wp2_with fail
            refine (k_WordK d wr.heap.size 0 12 12 fv12 _ hdr2 (by simp) (by omega) (by omega) (by omega) (fun i hi => ?_)).mono ?_
            · have h9 : i = 0 ∨ i = 1 ∨ i = 2 ∨ i = 3 ∨ i = 4 ∨ i = 5 ∨ i = 6 ∨ i = 7 ∨ i = 8 ∨ i = 9 ∨ i = 10 ∨ i = 11 := by omega
              rcases h9 with rfl | rfl | rfl | rfl | rfl | rfl | rfl | rfl | rfl | rfl | rfl | rfl
              · exact hb12.cell 0
              · exact hb12.cell 1
              · exact hb12.cell 2
              · exact hb12.cell 3
              · exact hb12.cell 4
              · exact hb12.cell 5
              · exact hb12.cell 6
              · exact hb12.cell 7
              · exact hb12.cell 8
              · exact hb12.cell 9
              · exact hb12.cell 10
              · exact hb12.cell 11
            rintro e w15 ⟨r9, hr9, rfl, hd15, hg15⟩
            have hxz := fv12_small r9
            generalize fv12 r9 = x at hxz ⊢
            have hb15 : Below w.heap.size w w15 := (HBL.out.alloc hbs _).grown hg15 (by simp; omega) (fun g hg => by injection hg with hg; omega)
            have HB15 := Lib.hid (hb15.alloc hb15.size (.cells #[.string s, .string x] 9))
            have hS2 := Blk.new w15 9 #[.string s, .string x]
            clear hd15 hg15 hb15 hdr hdr2 hb12 hr9
            go_wp2_with fail
            obtain ⟨w16, hw16⟩ : ∃ w16, w15.alloc (.cells #[.string s, .string x] 9) = w16 := ⟨_, rfl⟩
            obtain ⟨sb, hsb⟩ : ∃ sb, w15.heap.size = sb := ⟨_, rfl⟩
            rw [hw16] at HB15 hS2 ⊢
            rw [hsb] at hS2 ⊢
            have hstr : ∀ i, i < 2 → ∃ y : ByteArray, w16.cell? ⟨sb, i, none⟩ = some (.string y) ∧ y.size ≤ 100 := fun i hi => by
              have h4 : i = 0 ∨ i = 1 := by omega
              rcases h4 with rfl | rfl
              · exact ⟨_, hS2.cell 0, h8⟩
              · exact ⟨_, hS2.cell 1, hxz⟩
            have hsl2 := hS2.lt
            have HSTR := Lib.hid hstr
            clear hw16 hsb hstr hS2
            go_loopw [137] (fun v137 wx => ∃ i : Nat, i ≤ 2 ∧ v137 = .int .i64 (i : Int) ∧ Below w16.heap.size w16 wx) (fun v137 _ => 2 - (intOf v137).toNat)
            case atStart => exact ⟨0, by omega, rfl, Below.refl _ _⟩
            case round =>
              rename World => wx
              obtain ⟨i, hi4, rfl, hbx⟩ := hrel
              have HBX := Lib.hid hbx
              have hszx := hbx.size
              have hbw : Below w.heap.size w wx := HB15.out.trans (hbx.mono HB15.out.size)
              have HBW := Lib.hid hbw
              have HLX := Lib.hid (HL.out.later hbw)
              clear hbx hbw
              by_cases hlt5 : i < 2
              · obtain ⟨y, hy, hyz⟩ := HSTR.out i hlt5
                have hy' : wx.cell? ⟨sb, i, none⟩ = some (.string y) := (HBX.out.cell (p := ⟨sb, i, none⟩) hsl2).trans hy
                have zj : (i : Int) < 2 := by omega
                have zj0 : (0 : Int) ≤ (i : Int) := by omega
                clear hy
                go_wp2_with fail
                refine (f_Name y _ (by omega)).mono ?_
                rintro e w17 ⟨he, hb17⟩
                obtain ⟨nb, hnb⟩ : ∃ nb : Bool, nameB (blOf y) = nb := ⟨_, rfl⟩
                rw [hnb] at he
                subst he
                have HNB := Lib.hid hnb
                have HB17 := Lib.hid (HBX.out.trans (hb17.mono hszx))
                have hbw17 := HBW.out.trans (hb17.mono HBW.out.size)
                have HS17 := Lib.hid (spc_below HSP.out (by have := HL.out.size; show (0 : Nat) < _; omega) hbw17)
                clear hnb hb17 hbw17
                go_wp2_with fail
                refine (r_Name y _ (by omega) HS17.out).mono ?_
                rintro e w18 ⟨he, hb18⟩
                rw [HNB.out] at he
                subst he
                have HB18 := Lib.hid (HB17.out.trans (hb18.mono HB17.out.size))
                have hbb : (nb == nb) = true := by simp
                clear hb18
                go_wp2_with fail
                go_roundw
                case measure => simp [intOf]; omega
                case rel => exact ⟨i + 1, by omega, by go_num, HB18.out⟩
              · have zj : ¬ (i : Int) < 2 := by omega
                go_wp2_with fail
                refine (f_awake _ HLX.out).mono ?_
                rintro e w2 ⟨rfl, hb2⟩
                have HB2 := Lib.hid (HBW.out.trans (hb2.mono (HBW.out.size)))
                clear hb2
                go_wp2_with fail
                go_ret
                exact ⟨rfl, HB2.out⟩
theorem f_valid (A : Option Addr) (n c : Nat) (t s : ByteArray) (A2 : Option Addr) (n2 c2 : Nat) (L : List Fld) (w : World) (hl : LibOk w) (hsp : SpcOk w) (hn : n ≤ 9223372036854775807) (har : n ≤ 500 → ArgL w (.slice A n c))
    (hT : FldsAt w (· < w.heap.size) (.slice A2 n2 c2) L) (hw : ∀ f ∈ L, FldWide f) : Calls Tryz.prog 5 #[.slice A n c, .agg #[.string t, .slice A2 n2 c2], .string s] w (AwkEnd w) := by
  by_cases h5 : n ≤ 500
  · by_cases h6 : n2 ≤ 40
    · by_cases h7 : t.size ≤ 1000
      · by_cases h8 : s.size ≤ 100
        · exact f_valid_main A n c t s A2 n2 c2 L w hl hsp hn h5 (har h5) h6 h7 h8 hT hw
        · exact f_valid_name A n c t s A2 n2 c2 w hl hn h5 h6 h7 h8
      · exact f_valid_title A n c t s A2 n2 c2 w hl hn h5 h6 h7
    · exact f_valid_long A n c t s A2 n2 c2 w hl hn h5 h6
  · exact f_valid_heavy A n c t s A2 n2 c2 w hl hn h5
end Go.Proofs.YthfmmememdlekaaGreatDoor
