/- Contracts: the bytes of the statement with the condition 'always' and nothing else; its rank. -/
import Derived.Test.YthfmmememdlekaaDoorOrStm
import Derived.Test.YthfmmememdlekaaDoorFmText
import Derived.Test.YthfmmememdlekaaDoorFmRoot
import Derived.Test.YthfmmememdlekaaDoorFmNam
import Derived.Test.YthfmmememdlekaaDoorCodInt
import Derived.Test.YthfmmememdlekaaDoorHanSumW
import Derived.Deep.RegionHeld3
set_option linter.unusedVariables false
set_option linter.unusedSimpArgs false
namespace Go.Proofs.YthfmmememdlekaaDoor
open Go.RowKit Num

def alwT : Trm := ⟨8, 0, 0, E0, E0, []⟩
def alwS : ByteArray := ⟨#[97, 108, 119, 97, 121, 115]⟩
theorem alw_root : rootF [alwT] = some (.node alwT []) := by kernel_rfl
theorem alw_ok : ∀ t ∈ [alwT], TrmOk t := fun t ht => by
  rw [List.mem_singleton.1 ht]
  exact ⟨by show (0 : Nat) ≤ _; omega, by show (0 : Nat) ≤ _; omega, by show (0 : Nat) ≤ _; omega⟩
def StrE (r : ByteArray) (w : World) (e : Ending) (w' : World) : Prop := e = .returned (.string r) ∧ Below w.heap.size w w'
set_option maxRecDepth 100000 in
set_option maxHeartbeats 400000 in
theorem f_PrintA (A : Option Addr) (c : Nat) (w : World) (hv : TermsAt w (· < w.heap.size) (.slice A 1 c) [alwT]) :
    Calls Tryd.prog 17 #[.agg #[.slice A 1 c]] w fun e w' => e = .returned (.tuple #[.string alwS, .int .i64 0]) ∧ Below w.heap.size w w' := by
  have hv2 : TermsAt (w.alloc (.cells #[.slice A 1 c] 24)) (· < w.heap.size) (.slice A 1 c) [alwT] := hv.keep fun b hb => Below.heap_alloc w _ b hb
  have hb0 : Below w.heap.size w (w.alloc (.cells #[.slice A 1 c] 24)) := (Below.refl _ _).alloc (Nat.le_refl _) _
  have HV := Lib.hid hv2
  have HB0 := Lib.hid hb0
  clear hv hv2 hb0
  go_enter Tryd.func17, Tryd.ntmps17
  go_wp2_with fail
  refine (f_root _ [alwT] w.heap.size _ HV.out (by simp) (by simp) alw_ok).mono ?_
  rw [alw_root]
  rintro e w1 ⟨p, rfl, ht, hb⟩
  obtain ⟨b, rfl, hS, ⟨c0, -⟩, -⟩ := ht
  have hs1 := hb.size
  simp at hs1
  have hbl : b < w1.heap.size := by
    rcases hS with h | ⟨_, h⟩
    · omega
    · exact h
  have HB1 := Lib.hid (HB0.out.trans (hb.mono (by simp)))
  clear hb hS
  go_wp2_with fail
  refine (f_text_word b 8 _ (.inr rfl) hbl c0).mono ?_
  rintro e w2 ⟨rfl, hb2⟩
  have HB2 := Lib.hid (HB1.out.trans (hb2.mono (by omega)))
  clear hb2
  go_wp2_with fail
  go_ret2
  exact ⟨rfl, HB2.out⟩
theorem p_int (b r : ByteArray) (n : Int) (W : World) (h : b ++ ⟨(putB n).toArray⟩ = r) (hb : b.size ≤ 1000) (h0 : 0 ≤ n) (h1 : n ≤ 1000) : Calls Tryd.prog 66 #[.string b, .int .i64 n] W (StrE r W) := by
  have := c_PutInt b n W (by omega) (by omega) (by omega)
  rw [← h]; exact this
set_option maxRecDepth 100000 in
set_option maxHeartbeats 400000 in
theorem p_text (b r s : ByteArray) (q : ByteArray) (W : World) (h : b ++ ⟨(putB (s.size : Int)).toArray⟩ = q) (hr : q ++ s = r) (hb : b.size ≤ 1000) (hs : s.size ≤ 1000) (hq : q.size ≤ 2000) : Calls Tryd.prog 67 #[.string b, .string s] W (StrE r W) := by
  have HR := Lib.hid hr
  have HP := Lib.hid (fun W => p_int b q (s.size : Int) W h hb (by omega) (by omega))
  clear h hr
  go_enter Tryd.func67, Tryd.ntmps67
  go_wp2_with fail
  refine (HP.out _).mono ?_
  rintro e w1 ⟨rfl, hb1⟩
  have HB1 := Lib.hid hb1
  clear hb1
  go_wp2_with fail
  go_ret
  exact ⟨by rw [← HR.out]; rfl, HB1.out⟩
def v1S : ByteArray := ⟨#[0]⟩
def v2S : ByteArray := ⟨#[0, 0]⟩
def v3S : ByteArray := ⟨#[0, 0, 0]⟩
def v4S : ByteArray := ⟨#[0, 0, 0, 0]⟩
def v5S : ByteArray := ⟨#[0, 0, 0, 0, 12, 97, 108, 119, 97, 121, 115]⟩
def v6S : ByteArray := ⟨#[0, 0, 0, 0, 12, 97, 108, 119, 97, 121, 115, 0]⟩
theorem bl_ap (a b : ByteArray) : blOf (a ++ b) = blOf a ++ blOf b := by
  show (ByteArray.data _).toList = _
  simp [ByteArray.data_append]
theorem put0 : putB 0 = [0] := by kernel_rfl
theorem put6 : putB 6 = [12] := by kernel_rfl
theorem p_1 (W : World) : Calls Tryd.prog 67 #[.string ⟨#[]⟩, .string ⟨#[]⟩] W (StrE v1S W) :=
  p_text ⟨#[]⟩ v1S ⟨#[]⟩ v1S W (by show (⟨#[]⟩ : ByteArray) ++ ⟨(putB 0).toArray⟩ = _; rw [put0]; apply blOf_inj; rw [bl_ap]; rfl) (by apply blOf_inj; rw [bl_ap]; rfl) (by show (0 : Nat) ≤ _; omega) (by show (0 : Nat) ≤ _; omega) (by show (1 : Nat) ≤ _; omega)
theorem p_2 (W : World) : Calls Tryd.prog 66 #[.string v1S, .int .i64 0] W (StrE v2S W) := p_int v1S v2S 0 W (by rw [put0]; apply blOf_inj; rw [bl_ap]; rfl) (by show (1 : Nat) ≤ _; omega) (by omega) (by omega)
theorem p_3 (W : World) : Calls Tryd.prog 66 #[.string v2S, .int .i64 0] W (StrE v3S W) := p_int v2S v3S 0 W (by rw [put0]; apply blOf_inj; rw [bl_ap]; rfl) (by show (2 : Nat) ≤ _; omega) (by omega) (by omega)
theorem p_4 (W : World) : Calls Tryd.prog 66 #[.string v3S, .int .i64 0] W (StrE v4S W) := p_int v3S v4S 0 W (by rw [put0]; apply blOf_inj; rw [bl_ap]; rfl) (by show (3 : Nat) ≤ _; omega) (by omega) (by omega)
theorem p_5 (W : World) : Calls Tryd.prog 67 #[.string v4S, .string alwS] W (StrE v5S W) :=
  p_text v4S v5S alwS ⟨#[0, 0, 0, 0, 12]⟩ W (by show v4S ++ ⟨(putB 6).toArray⟩ = _; rw [put6]; apply blOf_inj; rw [bl_ap]; rfl) (by apply blOf_inj; rw [bl_ap]; rfl) (by show (4 : Nat) ≤ _; omega) (by show (6 : Nat) ≤ _; omega) (by show (5 : Nat) ≤ _; omega)
theorem p_6 (W : World) : Calls Tryd.prog 66 #[.string v5S, .int .i64 0] W (StrE v6S W) := p_int v5S v6S 0 W (by rw [put0]; apply blOf_inj; rw [bl_ap]; rfl) (by show (11 : Nat) ≤ _; omega) (by omega) (by omega)
/-- The statement that opens always, and has nothing else. -/
abbrev alwV (A : Option Addr) (c : Nat) : Value := .agg #[.string ⟨#[]⟩, .int .i64 0, .int .i64 0, .slice none 0 0, .slice A 1 c, .slice none 0 0]
set_option maxRecDepth 100000 in
set_option maxHeartbeats 4000000 in
theorem a_Bytes (A : Option Addr) (c : Nat) (w : World) (hv : TermsAt w (· < w.heap.size) (.slice A 1 c) [alwT]) :
    Calls Tryd.prog 44 #[alwV A c] w fun e w' => e = .returned (.tuple #[.string v6S, .int .i64 0]) ∧ Below w.heap.size w w' := by
  have hb0 := Blk.new w 44 #[.string ⟨#[]⟩, .int .i64 0, .int .i64 0, .slice none 0 0, .slice A 1 c, .slice none 0 0]
  have hbA : Below w.heap.size w (w.alloc (.cells #[.string ⟨#[]⟩, .int .i64 0, .int .i64 0, .slice none 0 0, .slice A 1 c, .slice none 0 0] 44)) := (Below.refl _ _).alloc (Nat.le_refl _) _
  obtain ⟨wB, hwB⟩ : ∃ wB, w.alloc (.cells #[.string ⟨#[]⟩, .int .i64 0, .int .i64 0, .slice none 0 0, .slice A 1 c, .slice none 0 0] 44) = wB := ⟨_, rfl⟩
  have hvB : TermsAt wB (· < wB.heap.size) (.slice A 1 c) [alwT] := by rw [← hwB]; exact (hv.keep fun b hb => Below.heap_alloc w _ b hb).mono fun b hb => by simp; omega
  rw [hwB] at hb0 hbA
  have HV := Lib.hid hvB
  have HBA := Lib.hid hbA
  have HB0 := Lib.hid hb0
  have HWB := Lib.hid hwB
  clear hv hvB hbA hb0 hwB
  go_enter Tryd.func44, Tryd.ntmps44
  go_wp2_with fail
  rw [HWB.out]
  refine (f_PrintA A c wB HV.out).mono ?_
  rintro e w1 ⟨rfl, hb1⟩
  have hlB := HB0.out.lt
  have KC := Lib.hid (fun (W : World) (hW : Below wB.heap.size wB W) => HB0.out.below' hW hlB)
  have k1 := KC.out w1 hb1
  have x0 := (k1.cell 0).trans (show _ = some (Value.string ⟨#[]⟩) from rfl)
  have x1 := (k1.cell 1).trans (show _ = some (Value.int .i64 0) from rfl)
  have x2 := (k1.cell 2).trans (show _ = some (Value.int .i64 0) from rfl)
  have x3 := (k1.cell 3).trans (show _ = some (Value.slice none 0 0) from rfl)
  have x5 := (k1.cell 5).trans (show _ = some (Value.slice none 0 0) from rfl)
  have HB1 := Lib.hid hb1
  have HP1 := Lib.hid p_1
  have HP2 := Lib.hid p_2
  have HP3 := Lib.hid p_3
  have HP4 := Lib.hid p_4
  have HP5 := Lib.hid p_5
  have HP6 := Lib.hid p_6
  clear hb1 k1 HWB
  go_wp2_with fail
  go_region_held3 (fun W => W.cell? ⟨w.heap.size, 0, none⟩ = some (.string ⟨#[]⟩) ∧ W.cell? ⟨w.heap.size, 1, none⟩ = some (.int .i64 0) ∧ W.cell? ⟨w.heap.size, 2, none⟩ = some (.int .i64 0) ∧ Hid (Below wB.heap.size wB W))
    (first
      | exact ⟨x0, x1, x2, Lib.hid ((HB1.out).drew)⟩
      | (go_split_ands
         refine ⟨?_, ?_, ?_, ?_⟩
         · (rw [hbk.cell (World.block_lt_of_cell? _ _ ‹_›)]; assumption)
         · (rw [hbk.cell (World.block_lt_of_cell? _ _ ‹_›)]; assumption)
         · (rw [hbk.cell (World.block_lt_of_cell? _ _ ‹_›)]; assumption)
         · exact Lib.hid (Below.trans (‹Hid (Below wB.heap.size wB _)›).out (hbk.mono (‹Hid (Below wB.heap.size wB _)›).out.size))))
    (first
      | (go_at_call 67; ((with_reducible refine (HP1.out _).mono ?_); rintro e wk ⟨rfl, hbk⟩))
      | (go_at_call 66; ((with_reducible refine (HP2.out _).mono ?_); rintro e wk ⟨rfl, hbk⟩))
      | (go_at_call 66; ((with_reducible refine (HP3.out _).mono ?_); rintro e wk ⟨rfl, hbk⟩)))
  go_split_ands
  have hbw : Below wB.heap.size wB wk := (‹Hid (Below wB.heap.size wB wk)›).out
  rename World => w3
  have k3 := KC.out w3 hbw
  have y3 := (k3.cell 3).trans (show _ = some (Value.slice none 0 0) from rfl)
  have HB3 := Lib.hid hbw
  clear k3 hbw x0 x1 x2 x3 x5
  go_wp2_with fail
  refine (HP4.out _).mono ?_
  rintro e w4 ⟨rfl, hb4⟩
  have hb4' := HB3.out.trans (hb4.mono HB3.out.size)
  have k4 := KC.out w4 hb4'
  have z3 := (k4.cell 3).trans (show _ = some (Value.slice none 0 0) from rfl)
  have z5 := (k4.cell 5).trans (show _ = some (Value.slice none 0 0) from rfl)
  have HB4 := Lib.hid hb4'
  clear hb4 hb4' k4 y3
  go_wp2_with fail
  go_loopw [6, 8, 47] (fun v6 _ v47 wr => v6 = .string v4S ∧ v47 = .int .i64 0 ∧ w4 = wr) (fun _ _ _ _ => 0)
  case atStart => exact ⟨rfl, rfl, rfl⟩
  case round =>
    obtain ⟨rfl, rfl, rfl⟩ := hrel
    go_wp2_with fail
    go_region_held3 (fun W => W.cell? ⟨w.heap.size, 5, none⟩ = some (.slice none 0 0) ∧ Hid (Below wB.heap.size wB W))
      (first
        | exact ⟨z5, Lib.hid ((HB4.out).drew)⟩
        | (go_split_ands
           refine ⟨?_, ?_⟩
           · (rw [hbk.cell (World.block_lt_of_cell? _ _ ‹_›)]; assumption)
           · exact Lib.hid (Below.trans (‹Hid (Below wB.heap.size wB _)›).out (hbk.mono (‹Hid (Below wB.heap.size wB _)›).out.size))))
      (first
        | (go_at_call 67; ((with_reducible refine (HP5.out _).mono ?_); rintro e wk ⟨rfl, hbk⟩))
        | (go_at_call 66; ((with_reducible refine (HP6.out _).mono ?_); rintro e wk ⟨rfl, hbk⟩)))
    go_split_ands
    have hbw : Below wB.heap.size wB wk := (‹Hid (Below wB.heap.size wB wk)›).out
    have k6 := KC.out wk hbw
    have q5 := (k6.cell 5).trans (show _ = some (Value.slice none 0 0) from rfl)
    have HB6 := Lib.hid hbw
    have v6z : ((v6S.size : Nat) : Int) = 12 := rfl
    have v6l : ¬ (16384 : Int) < (v6S.size : Int) := by rw [v6z]; omega
    clear k6 hbw v6z
    go_wp2_with fail
    go_loopw [6, 10, 72] (fun v6 _ v72 wr => v6 = .string v6S ∧ v72 = .int .i64 0 ∧ wk = wr) (fun _ _ _ _ => 0)
    case atStart => exact ⟨rfl, rfl, rfl⟩
    case round =>
      obtain ⟨rfl, rfl, rfl⟩ := hrel
      go_wp2_with fail
      go_ret2
      exact ⟨rfl, HBA.out.trans (HB6.out.mono HBA.out.size)⟩
end Go.Proofs.YthfmmememdlekaaDoor
