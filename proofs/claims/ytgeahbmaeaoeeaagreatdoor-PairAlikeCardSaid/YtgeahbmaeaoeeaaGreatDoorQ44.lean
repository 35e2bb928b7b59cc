/- Contracts: whether contents fit a view of no entries; its other shares: none. -/
import Derived.Test.YtgeahbmaeaoeeaaGreatDoorQ43
import Derived.Deep.RegionHeld3
set_option linter.unusedVariables false
set_option linter.unusedSimpArgs false
namespace Go.Proofs.YtgeahbmaeaoeeaaGreatDoor
open Go.RowKit Num

set_option maxRecDepth 100000 in
set_option maxHeartbeats 1000000 in
theorem q_WaysL (p need hold : Nat) (Ah Ae Ao At : Option Addr) (nh ch ne ce no co nt ct : Nat) (H : List Int) (E : List SeenS) (w : World) (hw : BasesOk w) (hp : PlanP p need hold)
    (hH : IntsAt w (· < w.heap.size) (.slice Ah nh ch) H) (hE : SeensAt w (· < w.heap.size) (.slice Ae ne ce) E) (hlh : need ≤ H.length) (hl2 : H.length ≤ 1000000) (hle : E.length ≤ 10000) (hg : GoodV p hold H E) :
    Calls Tryz.prog 12 #[.agg #[.int .i64 (p : Int), .int .i64 (need : Int), .int .i64 (hold : Int)], .agg #[.slice Ah nh ch, .slice Ae ne ce, .slice Ao no co, .slice At nt ct]] w (WaysE 0 3 w) := by
  have hb0 := ((Below.refl w.heap.size w).alloc (Nat.le_refl _) (.cells #[.int .i64 (p : Int), .int .i64 (need : Int), .int .i64 (hold : Int)] 29)).alloc (by simp) (.cells #[.slice Ah nh ch, .slice Ae ne ce, .slice Ao no co, .slice At nt ct] 44)
  have hpb := (Blk.new w 29 #[.int .i64 (p : Int), .int .i64 (need : Int), .int .i64 (hold : Int)]).alloc (.cells #[.slice Ah nh ch, .slice Ae ne ce, .slice Ao no co, .slice At nt ct] 44)
  have hvb := Blk.new (w.alloc (.cells #[.int .i64 (p : Int), .int .i64 (need : Int), .int .i64 (hold : Int)] 29)) 44 #[.slice Ah nh ch, .slice Ae ne ce, .slice Ao no co, .slice At nt ct]
  rw [World.size_alloc] at hvb
  have hbe := q_belowT p need hold Ah Ae Ao At nh ch ne ce no co nt ct H E _ (hw.below hb0) hp (hH.up hb0) (hE.up hb0) hl2 (by omega) hg 3 (.inl ⟨hlh, rfl⟩)
  have p0 := (hpb.cell 0).trans (show _ = some (Value.int .i64 (p : Int)) from rfl)
  have p1 := (hpb.cell 1).trans (show _ = some (Value.int .i64 (need : Int)) from rfl)
  have p2 := (hpb.cell 2).trans (show _ = some (Value.int .i64 (hold : Int)) from rfl)
  have y0 := (hvb.cell 0).trans (show _ = some (Value.slice Ah nh ch) from rfl)
  have y1 := (hvb.cell 1).trans (show _ = some (Value.slice Ae ne ce) from rfl)
  have y2 := (hvb.cell 2).trans (show _ = some (Value.slice Ao no co) from rfl)
  have y3 := (hvb.cell 3).trans (show _ = some (Value.slice At nt ct) from rfl)
  have HBE := Lib.hid hbe
  have HB0 := Lib.hid hb0
  clear hbe hb0 hpb hvb hw hH hE hg hlh hl2 hle
  go_enter Tryz.func12, Tryz.ntmps12
  go_wp2_with fail
  refine HBE.out.mono ?_
  rintro e w1 ⟨rfl, hb1⟩
  have HB1 := Lib.hid (HB0.out.trans (hb1.mono HB0.out.size))
  clear hb1
  go_wp2_with fail
  go_ret2
  exact ⟨rfl, HB1.out⟩
set_option maxRecDepth 100000 in
set_option maxHeartbeats 400000 in
theorem q_opened0 (c : Nat) (w : World) : Calls Tryz.prog 43 #[.slice none 0 c] w fun e w' => e = .returned (.slice none 0 0) ∧ Below w.heap.size w w' := by
  go_enter Tryz.func43, Tryz.ntmps43
  go_wp2_with fail
  go_loopw [3, 8] (fun x t wr => x = .slice none 0 0 ∧ t = .int .i64 0 ∧ w = wr) (fun _ _ _ => 0)
  case atStart => exact ⟨rfl, rfl, rfl⟩
  case round =>
    obtain ⟨rfl, rfl, rfl⟩ := hrel
    go_wp2_with fail
    go_ret
    exact ⟨rfl, Below.refl _ _⟩
/-- The cells of an empty content. -/
def cont0 : Array Value := #[.int .i64 0, .int .i64 0, .bool false, .int .i64 0, .string ⟨#[]⟩, .int .i64 0, .int .i64 0, .slice none 0 0, .slice none 0 0, .slice none 0 0]
set_option maxRecDepth 100000 in
set_option maxHeartbeats 1000000 in
theorem q_opened1 (g : Nat) (w : World) (hb : Blk w g 63 cont0) : Calls Tryz.prog 43 #[.slice (some ⟨g, 0, none⟩) 1 1] w fun e w' => e = .returned (.slice none 0 0) ∧ Below w.heap.size w w' := by
  have HB := Lib.hid hb
  clear hb
  go_enter Tryz.func43, Tryz.ntmps43
  go_wp2_with fail
  go_loopw [3, 8] (fun x t wr => ∃ i : Nat, i ≤ 1 ∧ x = .slice none 0 0 ∧ t = .int .i64 (i : Int) ∧ Below w.heap.size w wr) (fun _ t _ => 1 - (intOf t).toNat)
  case atStart => exact ⟨0, by omega, rfl, rfl, Below.refl _ _⟩
  case round =>
    obtain ⟨i, hi, rfl, rfl, hbr⟩ := hrel
    rename World => wr
    have HBR := Lib.hid hbr
    clear hbr
    by_cases hlt : i < 1
    · obtain rfl : i = 0 := by omega
      have hx := HB.out.below HBR.out HB.out.lt
      have c0 := (hx.cell 0).trans (show _ = some (Value.int .i64 0) from rfl)
      have c1 := (hx.cell 1).trans (show _ = some (Value.int .i64 0) from rfl)
      have c2 := (hx.cell 2).trans (show _ = some (Value.bool false) from rfl)
      have c3 := (hx.cell 3).trans (show _ = some (Value.int .i64 0) from rfl)
      have c4 := (hx.cell 4).trans (show _ = some (Value.string ⟨#[]⟩) from rfl)
      have c5 := (hx.cell 5).trans (show _ = some (Value.int .i64 0) from rfl)
      have c6 := (hx.cell 6).trans (show _ = some (Value.int .i64 0) from rfl)
      have c7 := (hx.cell 7).trans (show _ = some (Value.slice none 0 0) from rfl)
      have c8 := (hx.cell 8).trans (show _ = some (Value.slice none 0 0) from rfl)
      have c9 := (hx.cell 9).trans (show _ = some (Value.slice none 0 0) from rfl)
      have HX := Lib.hid (HBR.out.trans ((Below.refl wr.heap.size wr).alloc (Nat.le_refl _) (.cells #[.int .i64 0, .int .i64 0, .bool false, .int .i64 0, .string ⟨#[]⟩, .int .i64 0, .int .i64 0, .slice none 0 0, .slice none 0 0, .slice none 0 0] 63) |>.mono HBR.out.size))
      clear hx
      go_wp2_with fail
      go_roundw
      case measure => simp [intOf]
      case rel => exact ⟨1, by omega, rfl, by go_num, HX.out⟩
    · obtain rfl : i = 1 := by omega
      go_wp2_with fail
      go_ret
      exact ⟨rfl, HBR.out⟩
set_option maxRecDepth 100000 in
set_option maxHeartbeats 400000 in
theorem q_EqSt0 (fn : Value) (c d : Nat) (w : World) : Calls Tryz.prog 42 #[.slice none 0 c, .slice none 0 d, fn] w (BoolBelow true w) := by
  go_enter Tryz.func42, Tryz.ntmps42
  go_wp2_with fail
  go_loopw [17] (fun t wr => t = .int .i64 0 ∧ w = wr) (fun _ _ => 0)
  case atStart => exact ⟨rfl, rfl⟩
  case round =>
    obtain ⟨rfl, rfl⟩ := hrel
    go_wp2_with fail
    go_ret
    exact ⟨rfl, Below.refl _ _⟩
set_option maxRecDepth 100000 in
set_option maxHeartbeats 400000 in
theorem q_EqCt0 (fn : Value) (c d : Nat) (w : World) : Calls Tryz.prog 35 #[.slice none 0 c, .slice none 0 d, fn] w (BoolBelow true w) := by
  go_enter Tryz.func35, Tryz.ntmps35
  go_wp2_with fail
  go_loopw [17] (fun t wr => t = .int .i64 0 ∧ w = wr) (fun _ _ => 0)
  case atStart => exact ⟨rfl, rfl⟩
  case round =>
    obtain ⟨rfl, rfl⟩ := hrel
    go_wp2_with fail
    go_ret
    exact ⟨rfl, Below.refl _ _⟩
set_option maxRecDepth 100000 in
set_option maxHeartbeats 400000 in
theorem q_EqCS0 (fn : Value) (A B : Option Addr) (n c d : Nat) (hn : n ≤ 1000) (b : Bool) (hb : decide (n = 0) = b) (w : World) : Calls Tryz.prog 44 #[.slice A n c, .slice B 0 d, fn] w (BoolBelow b w) := by
  rcases Nat.eq_zero_or_pos n with h0 | h0
  · subst h0
    obtain rfl : b = true := by rw [← hb]; rfl
    clear hb
    go_enter Tryz.func44, Tryz.ntmps44
    go_wp2_with fail
    go_loopw [17] (fun t wr => t = .int .i64 0 ∧ w = wr) (fun _ _ => 0)
    case atStart => exact ⟨rfl, rfl⟩
    case round =>
      obtain ⟨rfl, rfl⟩ := hrel
      go_wp2_with fail
      go_ret
      exact ⟨rfl, Below.refl _ _⟩
  · obtain rfl : b = false := by rw [← hb]; exact decide_eq_false (by omega)
    have t1 : ((n : Int) == 0) = false := by simp; omega
    have t2 : ((n : Int) != 0) = true := by simp; omega
    have t3 : ¬ (n : Int) = 0 := by omega
    clear hb
    go_enter Tryz.func44, Tryz.ntmps44
    go_wp2_with fail
    go_ret
    exact ⟨rfl, Below.refl _ _⟩
set_option maxRecDepth 100000 in
set_option maxHeartbeats 400000 in
theorem q_Alike0 (c d : Nat) (u : Int) (w : World) : Calls Tryz.prog 17 #[.slice none 0 c, .slice none 0 d, .int .i64 u] w (BoolBelow true w) := by
  have hmf : ∀ (fn : Fn) (first cap : Array Value) (w : World), (Instr.makeFunc fn first cap).run Tryz.prog w = .ok (.func fn first cap) w := fun _ _ _ _ => rfl
  have HB := Lib.hid ((Below.refl w.heap.size w).alloc (Nat.le_refl _) (.cells #[.int .i64 u] 3))
  go_enter Tryz.func17, Tryz.ntmps17
  go_wp2_with fail
  refine (q_EqCt0 _ c d _).mono ?_
  rintro e w1 ⟨rfl, hb1⟩
  have HB1 := Lib.hid (HB.out.trans (hb1.mono HB.out.size))
  clear hb1
  go_wp2_with fail
  go_ret
  exact ⟨rfl, HB1.out⟩
set_option maxRecDepth 100000 in
set_option maxHeartbeats 400000 in
theorem a_plan (w : World) : Calls Tryz.prog 19 #[] w fun e w' => e = .returned (.agg #[.int .i64 11, .int .i64 3, .int .i64 4]) ∧ Below w.heap.size w w' := by
  go_enter Tryz.func19, Tryz.ntmps19
  go_wp2_with fail
  have hb := Blk.new w 29 #[.int .i64 11, .int .i64 3, .int .i64 4]
  have hB := (Below.refl w.heap.size w).alloc (Nat.le_refl _) (.cells #[.int .i64 11, .int .i64 3, .int .i64 4] 29)
  generalize w.alloc (.cells #[.int .i64 11, .int .i64 3, .int .i64 4] 29) = w1 at *
  have d0 : w1.cell? ⟨w.heap.size, 0, none⟩ = some (.int .i64 11) := hb.cell 0
  have d1 : w1.cell? ⟨w.heap.size, 1, none⟩ = some (.int .i64 3) := hb.cell 1
  have d2 : w1.cell? ⟨w.heap.size, 2, none⟩ = some (.int .i64 4) := hb.cell 2
  exact bodyPost_ret (v := .agg #[.int .i64 11, .int .i64 3, .int .i64 4]) (by simp [results, Tryz.results19, go_sem, d0, d1, d2]) rfl ⟨rfl, hB⟩
end Go.Proofs.YtgeahbmaeaoeeaaGreatDoor
