/- Contracts: awake of chapter 31, out of the contracts of any statements. Words for memory: a statement that the plays made, beside a row of statements. Contracts: agree of chapter 31. What a slice of ints that is read as data gives. -/
import Derived.Test.YtgbhaaongmlpkaaGreatDoorX36
import Derived.Test.YtgbhaaongmlpkaaGreatDoorX32
import Derived.Test.YtgbhaaongmlpkaaGreatDoorX37
import Derived.ArgAppend
import Derived.Test.YtgbhaaongmlpkaaGreatDoorX31
import Derived.Test.YtgbhaaongmlpkaaGreatDoorX34
import Derived.Test.YtgbhaaongmlpkaaGreatDoorX33
import Derived.Test.YtgbhaaongmlpkaaGreatDoorX02
import Derived.ProofKit
import Derived.SizedLaws
set_option linter.unusedVariables false
set_option linter.unusedSimpArgs false
namespace Go.Proofs.YtgbhaaongmlpkaaGreatDoor
open Go.RowKit Num

/-- The statement with no words that opens always. -/
def alwS : Stm := ⟨⟨#[]⟩, 0, 0, [], [⟨8, 0, 0, E0, E0, []⟩], []⟩
def xS : ByteArray := ⟨#[120]⟩
theorem alw_root : (rootF alwS.cond).isSome = true := by decide
theorem alw_len : (stmW alwS).length ≤ 16384 := of_decide_eq_true (by kernel_rfl)
theorem alw_byt : bytZ alwS = 0 := by
  unfold bytZ
  rw [if_pos alw_root, if_pos (by decide), if_pos alw_len]
theorem alw_ok : StmOk alwS ∧ ∀ t ∈ alwS.cond, t.args.length ≤ 1000000 := by
  refine ⟨⟨by decide, by decide, by decide, by decide, (fun k hk => absurd hk (Nat.not_lt_zero k)), by decide, (fun k hk => absurd hk (Nat.not_lt_zero k)), by decide, fun t ht => ?_⟩, fun t ht => ?_⟩
  · rw [List.mem_singleton.1 ht]
    exact ⟨by decide, by decide, by decide⟩
  · rw [List.mem_singleton.1 ht]; decide
theorem alw_rank : (rnkS xS alwS).size = 32 := by
  unfold rnkS
  rw [if_pos alw_byt]
  exact pairS_size _ _
theorem alw_sorted : sortedR xS [alwS] = true := by
  refine sortedR_yes fun k hk => ?_
  obtain rfl : k = 0 := by simpa using hk
  unfold okR lastR
  rw [if_pos rfl, rLess_nil]
  show (decide (bytZ alwS = 0) && !false) = true
  rw [alw_byt]; rfl
theorem alw_srtZ : srtZ [alwS] = 0 := by
  unfold srtZ
  rw [if_neg (by decide)]
  show (if bytZ alwS = 0 then (0 : Int) else bytZ alwS) = 0
  rw [if_pos alw_byt]
theorem alw_srtL : (srtL xS [alwS]).length = 1 := by
  unfold srtL
  rw [if_pos alw_srtZ, List.length_map, srtP_len]; rfl
theorem below_none {w w' : World} (h : w.grownBy w' none) : Below w.heap.size w w' := ⟨h.os, h.tape, h.output, h.size, fun k hk => h.block k hk (by intro e; cases e)⟩
abbrev awkT : Obj := .cells #[.int .i64 8, .int .i64 0, .int .i64 0, .string ⟨#[]⟩, .string ⟨#[]⟩, .slice none 0 0] 46
abbrev awkC (g : Nat) : Obj := .cells #[.string ⟨#[]⟩, .int .i64 0, .int .i64 0, .slice none 0 0, .slice (some ⟨g, 0, none⟩) 1 1, .slice none 0 0] 36
def alwU (g : Nat) : V3 := ⟨.slice none 0 0, .slice (some ⟨g, 0, none⟩) 1 1, .slice none 0 0⟩
theorem alw_at (w : World) : StmAt ((w.alloc awkT).alloc (awkC w.heap.size)) (fun b => b = w.heap.size) (.slice none 0 0) (.slice (some ⟨w.heap.size, 0, none⟩) 1 1) (.slice none 0 0) alwS := by
  have h0 : Blk ((w.alloc awkT).alloc (awkC w.heap.size)) w.heap.size 46 #[.int .i64 8, .int .i64 0, .int .i64 0, .string ⟨#[]⟩, .string ⟨#[]⟩, .slice none 0 0] := (Blk.new w _ _).alloc _
  refine ⟨⟨none, 0, 0, rfl, rfl, Nat.le_refl _, fun h => absurd h (Nat.lt_irrefl 0)⟩, ⟨_, 1, 1, rfl, rfl, Nat.le_refl _, fun _ => ⟨w.heap.size, 0, rfl, rfl, fun k hk => ?_⟩⟩, ⟨none, 0, 0, rfl, rfl, Nat.le_refl _, fun h => absurd h (Nat.lt_irrefl 0)⟩⟩
  obtain rfl : k = 0 := by omega
  exact ⟨h0.cell 0, h0.cell 1, h0.cell 2, h0.cell 3, h0.cell 4, _, h0.cell 5, none, 0, 0, rfl, rfl, Nat.le_refl _, fun h => absurd h (by omega)⟩
theorem awk_blk (w : World) : Blk ((w.alloc awkT).alloc (awkC w.heap.size)) (w.heap.size + 1) 36 #[.string ⟨#[]⟩, .int .i64 0, .int .i64 0, .slice none 0 0, .slice (some ⟨w.heap.size, 0, none⟩) 1 1, .slice none 0 0] := by
  have := Blk.new (w.alloc awkT) 36 #[.string ⟨#[]⟩, .int .i64 0, .int .i64 0, .slice none 0 0, .slice (some ⟨w.heap.size, 0, none⟩) 1 1, .slice none 0 0]
  rwa [World.size_alloc] at this
theorem awk_cells (w : World) (g : Nat) : ∀ j u, ([.string ⟨#[]⟩, .int .i64 0, .int .i64 0, .slice none 0 0, .slice (some ⟨g, 0, none⟩) 1 1, .slice none 0 0] : List Value)[j]? = some u → ((w.alloc awkT).alloc (awkC g)).cell? ((⟨w.heap.size + 1, 0, none⟩ : Addr).add j) = some u := by
  have := cell_six_new (w.alloc awkT) (.string ⟨#[]⟩) (.int .i64 0) (.int .i64 0) (.slice none 0 0) (.slice (some ⟨g, 0, none⟩) 1 1) (.slice none 0 0) 36
  rwa [World.size_alloc] at this
theorem awk_stms (w : World) : StmsAt ((w.alloc awkT).alloc (awkC w.heap.size)) (· < w.heap.size + 2) (.slice (some ⟨w.heap.size + 1, 0, none⟩) 1 1) [alwS] := by
  have h1 := awk_blk w
  refine ⟨_, 1, 1, rfl, rfl, Nat.le_refl _, fun _ => ⟨w.heap.size + 1, 0, rfl, by omega, fun k hk => ?_⟩⟩
  obtain rfl : k = 0 := by omega
  refine ⟨alwU w.heap.size, fun j hj => ?_, (alw_at w).mono fun b hb => by omega⟩
  match j, hj with
  | 0, _ => exact h1.cell 0
  | 1, _ => exact h1.cell 1
  | 2, _ => exact h1.cell 2
  | 3, _ => exact h1.cell 3
  | 4, _ => exact h1.cell 4
  | 5, _ => exact h1.cell 5
def AwkO (w : World) (e : Ending) (w' : World) : Prop := e = .returned (.bool true) ∧ Below w.heap.size w w'
set_option maxRecDepth 100000 in
set_option maxHeartbeats 4000000 in
theorem o_awakeS (w : World) (hl : LibOk w) (hsp : SpcOk w) : Calls Tryz.prog 5 #[] w (AwkO w) := by
  obtain ⟨i0, hi, hz0, hz1, hz2⟩ := info_parts infoSt
  have hal := awk_stms w
  have hat := alw_at w
  have hbk := awk_blk w
  have hba : Below w.heap.size w ((w.alloc awkT).alloc (awkC w.heap.size)) := ((Below.refl _ _).alloc (Nat.le_refl _) _).alloc (by simp) _
  have hcs := awk_cells w w.heap.size
  have HAL := Lib.hid hal
  have HAT := Lib.hid hat
  have HBK := Lib.hid hbk
  have HBA := Lib.hid hba
  have HCS := Lib.hid hcs
  have HL := Lib.hid hl
  have HSP := Lib.hid hsp
  clear hal hat hbk hba hcs hl hsp
  have h13 := o_SlotA 13 5
  have h15 := o_SlotA 15 5
  unfold SltQ at h13 h15
  rw [show slotV 13 5 = 15 by decide, show slotZ 13 5 = 0 by decide] at h13
  rw [show slotV 15 5 = 15 by decide, show slotZ 15 5 = 0 by decide] at h15
  have H13 := Lib.hid h13
  have H15 := Lib.hid h15
  clear h13 h15
  go_enter Tryz.func5, Tryz.ntmps5
  go_wp2_with fail
  refine (H13.out _).mono ?_
  rintro e w1 ⟨rfl, rfl⟩
  go_wp2_with fail
  refine (H15.out _).mono ?_
  rintro e w1 ⟨rfl, rfl⟩
  go_wp2_with (at_builtin; refine wpList_append_grows _ rfl _ _ 28 rfl 36 i0 (.agg #[.string ⟨#[]⟩, .int .i64 0, .int .i64 0, .slice none 0 0, .slice none 0 0, .slice none 0 0]) 6 104 Tryz.underlying28 hi hz0 hz1 hz2 rfl (by decide) (some ⟨w.heap.size + 1, 0, none⟩) 1 1 [.string ⟨#[]⟩, .int .i64 0, .int .i64 0, .slice none 0 0, .slice (some ⟨w.heap.size, 0, none⟩) 1 1, .slice none 0 0] rfl (fun h => by cases h) rfl (fun b hb => by cases hb; exact HCS.out) ⟨w.heap.size + 1, 0, none⟩ 1 1 [.string ⟨#[]⟩, .int .i64 0, .int .i64 0, .slice none 0 0, .slice (some ⟨w.heap.size, 0, none⟩) 1 1, .slice none 0 0] rfl rfl HCS.out (by intro u hu; simp at hu; rcases hu with rfl | rfl | rfl | rfl | rfl | rfl <;> rfl) (by omega) (by unfold maxLen; omega) (by omega) ?_)
  intro v3 w3 hown3 hgrow3
  have hb3 : Below ((w.alloc awkT).alloc (awkC w.heap.size)).heap.size ((w.alloc awkT).alloc (awkC w.heap.size)) w3 := below_none hgrow3
  have hs2 : ((w.alloc awkT).alloc (awkC w.heap.size)).heap.size = w.heap.size + 2 := by simp
  have hz3 := hb3.size
  rw [hs2] at hz3
  have hB3 := HBA.out.trans (hb3.mono (by simp; omega))
  have hst3 : StmsAt w3 (· < w3.heap.size) v3 [alwS, alwS] := stms_row (us := fun _ => alwU w.heap.size) (T := (· < w3.heap.size)) hown3 (fun k hk => by
    have e : stmL [alwS, alwS] k = alwS := by
      match k, hk with
      | 0, _ => rfl
      | 1, _ => rfl
    rw [e]
    exact (HAT.out.keep fun b hb => hb3.block b (by rw [hs2]; omega)).mono fun b hb => by show b < w3.heap.size; omega) (fun b hb => hb)
  have hal3 := fun (W : World) (hW : Below w3.heap.size w3 W) => (HAL.out.keep (w' := W) fun b hb => (hW.block b (by omega)).trans (hb3.block b (by rw [hs2]; exact hb)))
  have hat3 := fun (W : World) (hW : Below w3.heap.size w3 W) => (HAT.out.keep (w' := W) fun b hb => (hW.block b (by omega)).trans (hb3.block b (by rw [hs2]; omega)))
  have hbk3 : ∀ W : World, Below w3.heap.size w3 W → Blk W (w.heap.size + 1) 36 #[.string ⟨#[]⟩, .int .i64 0, .int .i64 0, .slice none 0 0, .slice (some ⟨w.heap.size, 0, none⟩) 1 1, .slice none 0 0] := fun W hW => (hW.block (w.heap.size + 1) (by omega)).trans ((hb3.block (w.heap.size + 1) (by rw [hs2]; omega)).trans HBK.out)
  obtain ⟨g3, c3, hv3, hg3, hg3l⟩ := World.ownsRow.form hown3 (by omega)
  subst hv3
  have HST := Lib.hid hst3
  have HAL3 := Lib.hid hal3
  have HAT3 := Lib.hid hat3
  have HBK3 := Lib.hid hbk3
  have HB3 := Lib.hid hB3
  have HZ3 := Lib.hid hz3
  clear hb3 hB3 hst3 hal3 hat3 hbk3 hown3 hgrow3 HAL HAT HBA HCS HBK hs2
  have hok1 : ∀ s ∈ [alwS], StmOk s ∧ ∀ t ∈ s.cond, t.args.length ≤ 1000000 := fun s hs => by rw [List.mem_singleton.1 hs]; exact alw_ok
  have hok2 : ∀ s ∈ [alwS, alwS], StmOk s ∧ ∀ t ∈ s.cond, t.args.length ≤ 1000000 := fun s hs => by
    rcases List.mem_cons.1 hs with h | h
    · rw [h]; exact alw_ok
    · exact hok1 s h
  have HOK1 := Lib.hid hok1
  have HOK2 := Lib.hid hok2
  clear hok1 hok2
  have hbt := o_BatchesQ 1 (some ⟨g3, 0, none⟩) 2 c3 [alwS, alwS] (· < w3.heap.size) w3 HST.out (fun b hb => hb) (by omega) (by decide) HOK2.out
  unfold BtsQ at hbt
  rw [show btsN [alwS, alwS] 1 = 2 by decide, show btsZ [alwS, alwS] 1 = 0 by decide] at hbt
  have HBT := Lib.hid hbt
  clear hbt hz3
  go_wp2_with fail
  refine HBT.out.mono ?_
  rintro e w4 ⟨A4, c4, outs, rfl, -, -, hb4⟩
  have HB4 := Lib.hid hb4
  have hB4 := HB3.out.trans (hb4.mono HB3.out.size)
  have HBB4 := Lib.hid hB4
  have hsr := o_Sort xS (some ⟨w.heap.size + 1, 0, none⟩) 1 1 [alwS] (· < w.heap.size + 2) w4 (by decide) (HAL3.out w4 hb4) (fun b hb => Nat.lt_of_lt_of_le (show b < w3.heap.size by have := HZ3.out; omega) hb4.size) (by decide) HOK1.out (fun _ => by decide) (HL.out.later hB4) (spc_below HSP.out (by have := HL.out.size; show 2 < _; omega) hB4)
  unfold SrtQ at hsr
  rw [alw_srtZ] at hsr
  have HSR := Lib.hid hsr
  clear hsr hb4 hB4 HBT
  go_wp2_with fail
  refine HSR.out.mono ?_
  rintro e w5 ⟨v5, rfl, ⟨A5, n5, c5, rfl, hn5, -, -⟩, hb5⟩
  rw [alw_srtL] at hn5
  subst hn5
  have hB45 := HB4.out.trans (hb5.mono HB4.out.size)
  have hB5 := HBB4.out.trans (hb5.mono HBB4.out.size)
  have hbk5 := HBK3.out w5 hB45
  have x0 := hbk5.cell 0
  have x1 := hbk5.cell 1
  have x2 := hbk5.cell 2
  have x3 := hbk5.cell 3
  have x4 := hbk5.cell 4
  have x5 := hbk5.cell 5
  have HB45 := Lib.hid hB45
  have HBB5 := Lib.hid hB5
  clear hb5 hB45 hB5 hbk5 HSR
  have hrk := o_RankS xS alwS none (some ⟨w.heap.size, 0, none⟩) none 0 0 1 1 0 0 (fun b => b = w.heap.size) w5 (by decide) (HAT3.out w5 HB45.out) (fun b hb => by have := HZ3.out; have := HB45.out.size; omega) alw_ok.1 (HL.out.later HBB5.out) (spc_below HSP.out (by have := HL.out.size; show 2 < _; omega) HBB5.out)
  unfold RnkQ at hrk
  rw [alw_byt] at hrk
  have HRK := Lib.hid hrk
  have hrz := alw_rank
  obtain ⟨r, hr⟩ : ∃ r, rnkS xS alwS = r := ⟨_, rfl⟩
  rw [hr] at hrz HRK
  have hrz2 : ((r.size : Nat) : Int) = 32 := by rw [hrz]; rfl
  clear hrk hrz hr
  go_wp2_with fail
  refine HRK.out.mono ?_
  rintro e w6 ⟨rfl, hb6⟩
  have hB46 := HB45.out.trans (hb6.mono HB45.out.size)
  have hB6 := HBB5.out.trans (hb6.mono HBB5.out.size)
  have hsd := o_Sorted xS (some ⟨w.heap.size + 1, 0, none⟩) 1 1 [alwS] (· < w.heap.size + 2) w6 (by decide) (HAL3.out w6 hB46) (fun b hb => Nat.lt_of_lt_of_le (show b < w3.heap.size by have := HZ3.out; omega) hB46.size) (by decide) HOK1.out (HL.out.later hB6) (spc_below HSP.out (by have := HL.out.size; show 2 < _; omega) hB6)
  rw [alw_sorted] at hsd
  have HSD := Lib.hid hsd
  have HBB6 := Lib.hid hB6
  clear hsd hb6 hB46 hB6 x0 x1 x2 x3 x4 x5 HRK
  go_wp2_with fail
  refine HSD.out.mono ?_
  rintro e w7 ⟨rfl, hb7⟩
  have HB7 := Lib.hid (HBB6.out.trans (hb7.mono HBB6.out.size))
  clear hb7
  go_wp2_with fail
  go_ret
  exact ⟨rfl, HB7.out⟩
end Go.Proofs.YtgbhaaongmlpkaaGreatDoor
namespace Go.Proofs.YtgbhaaongmlpkaaGreatDoor
open Go.RowKit Num

theorem StmE.drop {w w' : World} {db : Nat} {e : Ending} (h : StmE w db e w') : ∃ s Aa na ca Ac nc cc As ns cs, e = .returned (.agg #[.string s.resp, .int .i64 s.dep, .int .i64 s.day, .slice Aa na ca, .slice Ac nc cc, .slice As ns cs]) ∧ StmAt w' (fun b => w.heap.size ≤ b ∧ b < w'.heap.size) (.slice Aa na ca) (.slice Ac nc cc) (.slice As ns cs) s ∧ StmSm s ∧ Dc w' db ∧ w.grownBy w' (some db) := h
/-- Beside a row that lies behind the dice: the row stays, and the new statement's lists are none of its blocks. -/
theorem StsOwn.made {w w' : World} {B z db : Nat} {t : TypeId} {v : Value} {L : List Stm} {us : Nat → V3} {ex : Nat → List Value} {s : Stm} {va vc vs : Value} (h : StsOwn w B t z v L us ex) (hdb : db < B) (hB : B ≤ w.heap.size) (hs : StmAt w' (fun b => w.heap.size ≤ b ∧ b < w'.heap.size) va vc vs s) (hg : w.grownBy w' (some db)) :
    StsOwn w' B t z v L us ex ∧ StmAt w' (fun b => B ≤ b ∧ b < w'.heap.size ∧ v.ownBlock ≠ some b) va vc vs s :=
  ⟨h.keep hg (fun q hq => by injection hq; omega), hs.mono fun b hb => ⟨by omega, hb.2, fun e => by have := (h.row.lt b e).2; omega⟩⟩
/-- What the copies ask of made statements. -/
theorem StmSm.args {s : Stm} (h : StmSm s) : ∀ t ∈ s.cond, t.args.length ≤ 1000000 := fun t ht => by
  have := (h.cond t ht).2.2.2.2
  omega
theorem StmSm.both {s : Stm} (h : StmSm s) : StmOk s ∧ ∀ t ∈ s.cond, t.args.length ≤ 1000000 := ⟨h.ok, h.args⟩
/-- A statement without a condition has no bytes. -/
theorem bare_none (r : ByteArray) : bytZ ⟨r, 0, 0, [], [], []⟩ = 14 := by
  unfold bytZ
  have e : (rootF ([] : List Trm)).isSome = false := by decide
  rw [if_neg (by simp [e])]
theorem bare_sm (r : ByteArray) (h : r.size ≤ 1000) : StmSm ⟨r, 0, 0, [], [], []⟩ :=
  ⟨h, ⟨by show (-1000000000 : Int) ≤ 0; decide, by show (0 : Int) ≤ _; decide⟩, ⟨by show (-1000000000 : Int) ≤ 0; decide, by show (0 : Int) ≤ _; decide⟩, Nat.zero_le _, (fun a ha => by cases ha), Nat.zero_le _, (fun a ha => by cases ha), Nat.zero_le _, (fun a ha => by cases ha)⟩
end Go.Proofs.YtgbhaaongmlpkaaGreatDoor
namespace Go.Proofs.YtgbhaaongmlpkaaGreatDoor
open Go.RowKit Num Go.Shelf Go.Sort Go.Lib

theorem srtL_mem {seed : ByteArray} {L : List Stm} {s : Stm} (h : s ∈ srtL seed L) : s ∈ L := by
  unfold srtL at h
  by_cases hz : srtZ L = 0
  · rw [if_pos hz] at h
    obtain ⟨q, hq, rfl⟩ := List.mem_map.1 h
    exact stmL_mem (srtP_mem seed L _ q hq)
  · rw [if_neg hz] at h; cases h
theorem srtL_len (seed : ByteArray) (L : List Stm) : (srtL seed L).length ≤ L.length := by
  unfold srtL
  by_cases hz : srtZ L = 0
  · rw [if_pos hz, List.length_map, srtP_len]; exact Nat.le_refl _
  · rw [if_neg hz]; exact Nat.zero_le _
/-- A list of statements below the world's end, later. -/
theorem stms_step {w w' : World} {v : Value} {L : List Stm} (h : StmsAt w (· < w.heap.size) v L) (hb : Below w.heap.size w w') : StmsAt w' (· < w'.heap.size) v L :=
  (h.keep fun b hB => hb.block b hB).mono fun b hB => Nat.lt_of_lt_of_le hB hb.size
/-- What the batches are, later. -/
def BtAt (L : List Stm) (zi : Int) (A : Option Addr) (W : World) : Prop := ∀ k, k < btsN L zi → ∃ g u, A = some ⟨g, 0, none⟩ ∧ g < W.heap.size ∧ W.cell? ⟨g, k, none⟩ = some u ∧ StmsAt W (· < W.heap.size) u (partL L zi.toNat k)
theorem BtAt.step {L : List Stm} {zi : Int} {A : Option Addr} {w w' : World} (h : BtAt L zi A w) (hb : Below w.heap.size w w') : BtAt L zi A w' := fun k hk => by
  obtain ⟨g, u, h1, h2, h3, h4⟩ := h k hk
  exact ⟨g, u, h1, Nat.lt_of_lt_of_le h2 hb.size, (hb.cell (p := ⟨g, k, none⟩) h2).trans h3, stms_step h4 hb⟩
theorem BtsQ.at_ {L : List Stm} {zi : Int} {w w' : World} {e : Ending} (h : BtsQ L zi w e w') : ∃ A c, e = .returned (.tuple #[.slice A (btsN L zi) c, .int .i64 (btsZ L zi)]) ∧ BtAt L zi A w' ∧ Below w.heap.size w w' := by
  obtain ⟨A, c, outs, rfl, h1, h2, h3⟩ := h
  refine ⟨A, c, rfl, fun k hk => ?_, h3⟩
  obtain ⟨g, cap, hA, -, hg, hc⟩ := h1 k hk
  exact ⟨g, outs k, hA, hg, hc, h2 k hk⟩
set_option maxRecDepth 100000 in
set_option maxHeartbeats 4000000 in
theorem f_agree (seed : ByteArray) (A : Option Addr) (n c : Nat) (L : List Stm) (zi : Int) (w : World) (hsd : seed.size ≤ 1000) (hv : StmsAt w (· < w.heap.size) (.slice A n c) L) (hL : L.length ≤ 1000) (hok : ∀ s ∈ L, StmOk s ∧ ∀ t ∈ s.cond, t.args.length ≤ 1000000) (h20 : frst L = 0 → L.length < 20) (hz9 : -9223372036854775808 ≤ zi ∧ zi < 9223372036854775808) (hl : LibOk w) (hsp : SpcOk w) :
    Calls Tryz.prog 11 #[.string seed, .slice A n c, .int .i64 zi] w (AwkO w) := by
  have hw0 : 0 < w.heap.size := by have := hl.size; omega
  have hok1 : ∀ s ∈ L, StmOk s := fun s hs => (hok s hs).1
  have hv' := fun (W : World) (hW : Below w.heap.size w W) => stms_step hv hW
  have hl' := fun (W : World) (hW : Below w.heap.size w W) => hl.later hW
  have hsp' := fun (W : World) (hW : Below w.heap.size w W) => spc_below hsp (by have := hl.size; show 2 < _; omega) hW
  have h1 := o_Sort seed A n c L (· < w.heap.size) w hsd hv (fun b hb => hb) hL hok h20 hl hsp
  have h2 := fun (W : World) (hW : Below w.heap.size w W) => r_Sort seed A n c L (· < W.heap.size) W hsd (hv' W hW) (fun b hb => hb) hL hok1 (hl' W hW) (hsp' W hW)
  have h3 := fun (W : World) (hW : Below w.heap.size w W) => o_BatchesQ zi A n c L (· < W.heap.size) W (hv' W hW) (fun b hb => hb) (Nat.lt_of_lt_of_le hw0 hW.size) hL hok
  have h4 := fun (W : World) (hW : Below w.heap.size w W) => r_BatchesQ zi A n c L (· < W.heap.size) W (hv' W hW) (fun b hb => hb) hL hz9
  have h5 := fun (W : World) (hW : Below w.heap.size w W) => o_Sorted seed A n c L (· < W.heap.size) W hsd (hv' W hW) (fun b hb => hb) hL hok (hl' W hW) (hsp' W hW)
  have h6 := fun (W : World) (hW : Below w.heap.size w W) => r_Sorted seed A n c L (· < W.heap.size) W hsd (hv' W hW) (fun b hb => hb) hL hok1 (hl' W hW) (hsp' W hW)
  have h7 := fun (W : World) (Va Vb : Option Addr) (na ca nb cb : Nat) (M : List Stm) (ha : StmsAt W (· < W.heap.size) (.slice Va na ca) M) (hb : StmsAt W (· < W.heap.size) (.slice Vb nb cb) M) (hM : M.length ≤ 1000) (hmem : ∀ s ∈ M, s ∈ L) => r_SameL Va Vb na ca nb cb M W ha hb (by omega) (fun s hs => hok1 s (hmem s hs))
  unfold SrtQ at h1 h2
  have hsl : (srtL seed L).length ≤ 1000 := Nat.le_trans (srtL_len seed L) hL
  have hsm : ∀ s ∈ srtL seed L, s ∈ L := fun s hs => srtL_mem hs
  generalize srtL seed L = M at h1 h2 hsl hsm
  generalize srtZ L = z at h1 h2
  obtain ⟨A', n', c', he, hn, hnc, hc⟩ := id hv
  injection he with e1 e2 e3
  subst e1 e2 e3
  have hn1 : n ≤ 1000 := by omega
  have hpl : ∀ k, (partL L zi.toNat k).length ≤ 1000 := fun k => by rw [partL_len]; unfold chM; omega
  have hpm : ∀ k, ∀ s ∈ partL L zi.toNat k, s ∈ L := fun k s hs => partL_mem hs
  have hq6 := btsN_le L zi
  have HC := Lib.hid hc
  have HN := Lib.hid hn
  have HOK := Lib.hid hok
  have HL := Lib.hid hl'
  have HSP := Lib.hid hsp'
  have HV := Lib.hid hv'
  have H1 := Lib.hid h1
  have H2 := Lib.hid h2
  have H3 := Lib.hid h3
  have H4 := Lib.hid h4
  have H5 := Lib.hid h5
  have H6 := Lib.hid h6
  have H7 := Lib.hid h7
  have HSL := Lib.hid hsl
  have HSM := Lib.hid hsm
  have HPL := Lib.hid hpl
  have HPM := Lib.hid hpm
  obtain ⟨q, hq⟩ : ∃ q, btsN L zi = q := ⟨_, rfl⟩
  rw [hq] at hq6
  have HQ := Lib.hid hq
  obtain ⟨y, hy⟩ : ∃ y, btsZ L zi = y := ⟨_, rfl⟩
  have HY := Lib.hid hy
  obtain ⟨t, ht⟩ : ∃ t, sortedR seed L = t := ⟨_, rfl⟩
  have HT := Lib.hid ht
  clear hc hn hok hok1 hl hl' hsp hsp' hv hv' h1 h2 h3 h4 h5 h6 h7 hsl hsm hpl hpm h20 hL hq hy ht
  go_enter Tryz.func11, Tryz.ntmps11
  go_wp2_with fail
  refine H1.out.mono ?_
  rintro e w1 ⟨v1, rfl, hs1, hb1⟩
  obtain ⟨A1, n1, c1, rfl, -⟩ := id hs1
  have HS1 := Lib.hid hs1
  have HB1 := Lib.hid hb1
  clear hs1 hb1 H1
  go_wp2_with fail
  refine (H2.out w1 HB1.out).mono ?_
  rintro e w2 ⟨v2, rfl, hs2, hb2⟩
  obtain ⟨A2, n2, c2, rfl, -⟩ := id hs2
  have HS1' := Lib.hid (stms_step HS1.out hb2)
  have HS2 := Lib.hid hs2
  have HB2 := Lib.hid (HB1.out.trans (hb2.mono HB1.out.size))
  clear hs2 hb2 H2 HS1
  go_wp2_with fail
  refine (H3.out w2 HB2.out).mono ?_
  rintro e w3 hh
  obtain ⟨A3, c3, rfl, hbt3, hb3⟩ := BtsQ.at_ hh
  rw [HQ.out, HY.out]
  have HS1a := Lib.hid (stms_step HS1'.out hb3)
  have HS2a := Lib.hid (stms_step HS2.out hb3)
  have HT3 := Lib.hid hbt3
  have HB3 := Lib.hid (HB2.out.trans (hb3.mono HB2.out.size))
  clear hh hbt3 hb3 HS1' HS2 H3
  go_wp2_with fail
  refine (H4.out w3 HB3.out).mono ?_
  rintro e w4 hh
  obtain ⟨A4, c4, rfl, hbt4, hb4⟩ := BtsQ.at_ hh
  rw [HQ.out, HY.out]
  have HS1b := Lib.hid (stms_step HS1a.out hb4)
  have HS2b := Lib.hid (stms_step HS2a.out hb4)
  have HT3b := Lib.hid (HT3.out.step hb4)
  have HT4 := Lib.hid hbt4
  have HB4 := Lib.hid (HB3.out.trans (hb4.mono HB3.out.size))
  clear hh hbt4 hb4 HS1a HS2a HT3 H4
  go_wp2_with fail
  refine (H7.out w4 A1 A2 n1 c1 n2 c2 M HS1b.out HS2b.out HSL.out HSM.out).mono ?_
  rintro e w5 ⟨rfl, hb5⟩
  have HT3c := Lib.hid (HT3b.out.step hb5)
  have HT4c := Lib.hid (HT4.out.step hb5)
  have HB5 := Lib.hid (HB4.out.trans (hb5.mono HB4.out.size))
  clear hb5 HT3b HT4 HS1b HS2b
  go_wp2_with fail
  refine (H5.out w5 HB5.out).mono ?_
  rintro e w6 ⟨rfl, hb6⟩
  have HT3d := Lib.hid (HT3c.out.step hb6)
  have HT4d := Lib.hid (HT4c.out.step hb6)
  have HB6 := Lib.hid (HB5.out.trans (hb6.mono HB5.out.size))
  clear hb6 HT3c HT4c
  rw [HT.out]
  go_wp2_with fail
  refine (H6.out w6 HB6.out).mono ?_
  rintro e w7 ⟨rfl, hb7⟩
  have HT3e := Lib.hid (HT3d.out.step hb7)
  have HT4e := Lib.hid (HT4d.out.step hb7)
  have HB7 := Lib.hid (HB6.out.trans (hb7.mono HB6.out.size))
  clear hb7 HT3d HT4d
  rw [HT.out]
  have htt : (t != t) = false := by cases t <;> rfl
  go_wp2_with fail
  go_loopw [15] (fun v15 wr => ∃ k : Nat, k ≤ q ∧ v15 = .int .i64 (k : Int) ∧ Below w7.heap.size w7 wr) (fun v15 _ => q - (intOf v15).toNat)
  case atStart => exact ⟨0, by omega, rfl, Below.refl _ _⟩
  case round =>
    obtain ⟨k, hk, rfl, hb⟩ := hrel
    have HB := Lib.hid hb
    have hsz := hb.size
    clear hb
    by_cases hlt : k < q
    · obtain ⟨g, u, rfl, hg, hc3, hs3⟩ := HT3e.out k (by rw [HQ.out]; exact hlt)
      obtain ⟨g', u', rfl, hg', hc4, hs4⟩ := HT4e.out k (by rw [HQ.out]; exact hlt)
      have hs3' := stms_step (stms_step hs3 HB.out) ((Below.refl wr.heap.size wr).drew)
      have hs4' := stms_step (stms_step hs4 HB.out) ((Below.refl wr.heap.size wr).drew)
      obtain ⟨Au, nu, cu, rfl, -⟩ := id hs3
      obtain ⟨Av, nv, cv, rfl, -⟩ := id hs4
      have hsm := H7.out wr.drew Au Av nu cu nv cv (partL L zi.toNat k) hs3' hs4' (HPL.out k) (HPM.out k)
      have e0 := (HB.out.cell (p := ⟨g, k, none⟩) hg).trans hc3
      have d0 := (HB.out.cell (p := ⟨g', k, none⟩) hg').trans hc4
      have HSM2 := Lib.hid hsm
      clear hs3 hs4 hs3' hs4' hsm hc3 hc4
      have zi1 : (k : Int) < (q : Int) := by omega
      have zj : (0 : Int) ≤ (k : Int) := by omega
      go_upto_region 10 with fail
      have E0 := cell_drew' e0
      have D0 := cell_drew' d0
      go_region_law (first
        | ((try go_simp); go_at_call 24; (refine HSM2.out.mono ?_); rintro e w9 ⟨rfl, hb9⟩; have HB9 := Lib.hid (HB.out.trans ((Below.refl w7.heap.size wr).drew.trans (hb9.mono hsz))); clear hb9))
      all_goals
        go_wp2_with fail
        go_roundw
        case measure => simp [intOf]; omega
        case rel => exact ⟨k + 1, by omega, by go_num, HB9.out⟩
    · have zi1 : ¬ (k : Int) < (q : Int) := by omega
      have hB8 := HB7.out.trans (HB.out.mono HB7.out.size)
      have HB8 := Lib.hid hB8
      clear hB8 HT3e HT4e
      go_wp2_with fail
      go_loopw [16, 17, 18, 19, 20] (fun v16 _ _ _ _ wq => ∃ k : Nat, k ≤ 8 ∧ v16 = .int .i64 (k : Int) ∧ Below w.heap.size w wq) (fun v16 _ _ _ _ _ => 8 - (intOf v16).toNat)
      case atStart => exact ⟨0, by omega, rfl, HB8.out⟩
      case round =>
        rename World => wq
        obtain ⟨i, hi, rfl, hb⟩ := hrel
        have HBQ2 := Lib.hid hb
        have hszq := hb.size
        clear hb
        by_cases hlt2 : i < n
        · by_cases hlt3 : i < 8
          · obtain ⟨b, off, rfl, hbw, hcc⟩ := HC.out (by omega)
            have hkl : i < L.length := by have := HN.out; omega
            obtain ⟨⟨va, vc, vs⟩, hcl, hst⟩ := hcc i hlt2
            have hoks := HOK.out _ (stmL_mem hkl)
            obtain ⟨s, hs⟩ : ∃ s, stmL L i = s := ⟨_, rfl⟩
            rw [hs] at hcl hst hoks
            dsimp only at hst
            obtain ⟨Aa, na, ca, Ac, nc, cc, As, ns, cs, rfl, rfl, rfl⟩ := stm_forms hst
            have hcells : ∀ W, Below w.heap.size w W → ∀ j u, j < 6 → (stmCell s ⟨.slice Aa na ca, .slice Ac nc cc, .slice As ns cs⟩).getD j undef = u → W.cell? ⟨b, off + i * 6 + j, none⟩ = some u := fun W hW j u hj hu => (hW.cell (p := ⟨b, off + i * 6 + j, none⟩) hbw).trans ((hcl j hj).trans (congrArg some hu))
            have e0 := hcells wq HBQ2.out 0 (.string s.resp) (by decide) rfl
            have e1 := hcells wq HBQ2.out 1 (.int .i64 s.dep) (by decide) rfl
            have e2 := hcells wq HBQ2.out 2 (.int .i64 s.day) (by decide) rfl
            have e3 := hcells wq HBQ2.out 3 (.slice Aa na ca) (by decide) rfl
            have e4 := hcells wq HBQ2.out 4 (.slice Ac nc cc) (by decide) rfl
            have e5 := hcells wq HBQ2.out 5 (.slice As ns cs) (by decide) rfl
            simp only [Nat.add_zero] at e0
            have hr1 := fun (W : World) (hW : Below w.heap.size w W) => o_RankS seed s Aa Ac As na ca nc cc ns cs (· < w.heap.size) W hsd (hst.keep fun q hq => hW.block q hq) (fun q hq => Nat.lt_of_lt_of_le hq hW.size) hoks.1 (HL.out W hW) (HSP.out W hW)
            have hr2 := fun (W : World) (hW : Below w.heap.size w W) => r_RankS seed s Aa Ac As na ca nc cc ns cs (· < w.heap.size) W hsd (hst.keep fun q hq => hW.block q hq) (fun q hq => Nat.lt_of_lt_of_le hq hW.size) hoks.1 (HL.out W hW) (HSP.out W hW)
            unfold RnkQ at hr1 hr2
            generalize rnkS seed s = r at hr1 hr2
            generalize bytZ s = x at hr1 hr2
            have HR1 := Lib.hid hr1
            have HR2 := Lib.hid hr2
            have HCE := Lib.hid hcells
            clear hcc hcl hst hoks hs hcells hr1 hr2 hkl
            have z1 : (i : Int) < (n : Int) := by omega
            have z8 : (i : Int) < 8 := by omega
            have zj : (0 : Int) ≤ (i : Int) := by omega
            go_wp2_with fail
            refine (HR1.out _ HBQ2.out).mono ?_
            rintro e w9 ⟨rfl, hb9⟩
            have hB9 := HBQ2.out.trans (hb9.mono hszq)
            have HB9 := Lib.hid hB9
            clear hb9 hB9 e0 e1 e2 e3 e4 e5
            have e0 := HCE.out w9 HB9.out 0 (.string s.resp) (by decide) rfl
            have e1 := HCE.out w9 HB9.out 1 (.int .i64 s.dep) (by decide) rfl
            have e2 := HCE.out w9 HB9.out 2 (.int .i64 s.day) (by decide) rfl
            have e3 := HCE.out w9 HB9.out 3 (.slice Aa na ca) (by decide) rfl
            have e4 := HCE.out w9 HB9.out 4 (.slice Ac nc cc) (by decide) rfl
            have e5 := HCE.out w9 HB9.out 5 (.slice As ns cs) (by decide) rfl
            simp only [Nat.add_zero] at e0
            go_wp2_with fail
            refine (HR2.out _ HB9.out).mono ?_
            rintro e w10 ⟨rfl, hb10⟩
            have HB10 := Lib.hid (HB9.out.trans (hb10.mono HB9.out.size))
            clear hb10 e0 e1 e2 e3 e4 e5
            go_wp2_with fail
            go_roundw
            case measure => simp [intOf]; omega
            case rel => exact ⟨i + 1, by omega, by go_num, HB10.out⟩
          · have z1 : (i : Int) < (n : Int) := by omega
            have z8 : ¬ (i : Int) < 8 := by omega
            go_wp2_with fail
            go_ret
            exact ⟨rfl, HBQ2.out⟩
        · have z1 : ¬ (i : Int) < (n : Int) := by omega
          go_wp2_with fail
          go_ret
          exact ⟨rfl, HBQ2.out⟩
end Go.Proofs.YtgbhaaongmlpkaaGreatDoor
namespace Go.Proofs.YtgbhaaongmlpkaaGreatDoor
open Go.ChangeShapes Go.WideShapes Go.ChangeAt Go.RowKit

theorem ints_fact {H : Type} {enc : TypeId × Value → H} {W : World} {t e : TypeId} {a : Option Addr} {n c : Nat} {d : DataW H} {p : List MemPlace} (ht : Tryz.prog.underlying t = some (.slice e)) (he : Tryz.prog.underlying e = some (.int .i64)) (hc : Tryz.prog.cellsOf e = 1)
    (h : DataW.Trod enc Tryz.prog W 0 (fun _ => true) true t (.slice a n c) d p) (hlt : ∀ x ∈ p, x.block < W.heap.size) :
    n ≤ 9223372036854775807 ∧ (n ≤ 500 → ArgL W (.slice a n c)) := by
  obtain ⟨fu, hf⟩ := h
  rcases open_ints ht he hc hf with ⟨hcs, hx⟩ | ⟨b, len', cap', zs, hcs, _, hl, hm, hz, hx, hcell, hwz⟩
  · simp [Value.cells] at hcs
    obtain ⟨rfl, rfl, rfl⟩ := hcs
    exact ⟨by omega, fun _ => ⟨none, 0, 0, fun _ => 0, rfl, by omega, fun h => absurd h (by omega)⟩⟩
  · simp [Value.cells] at hcs
    obtain ⟨rfl, rfl, rfl⟩ := hcs
    simp only [Prod.mk.injEq] at hx
    obtain ⟨rfl, rfl⟩ := hx
    simp only [if_true] at hz
    unfold maxLen at hm
    refine ⟨by omega, fun h5 => ⟨some b, n, c, fun i => zs.getD i 0, rfl, h5, fun hn => ?_⟩⟩
    obtain ⟨b0, off, spot⟩ := b
    have hspot : spot = none := by simpa [Addr.add] using World.cell?_spot (hcell 0 (by omega))
    subst hspot
    refine ⟨b0, off, rfl, hlt (.cell b0 off) (MemPlace.mem_row.2 ⟨0, by omega, by simp⟩), fun i hi => ?_⟩
    rw [← add_plain]; exact hcell i (by omega)
end Go.Proofs.YtgbhaaongmlpkaaGreatDoor
