/- The contract of the handle that most parts give. -/
import Derived.Test.YtmneokkdkgflkaaDoorHanCho4
import Derived.BigQuiet
set_option linter.unusedVariables false
set_option linter.unusedSimpArgs false
namespace Go.Proofs.YtmneokkdkgflkaaDoor
open Go.RowKit Num

def RobPost (H : Nat) (B : List Int) (w : World) (e : Ending) (w' : World) : Prop :=
  ∃ v, e = .returned (.tuple #[.int .i64 (H : Int), v, .int .i64 0]) ∧ w'.ownsRow w.heap.size 3 1 v B.length ((srt B).map (Value.int .i64)) ∧ Below w.heap.size w w'
set_option maxRecDepth 100000 in
set_option maxHeartbeats 4000000 in
theorem h_Robust (p need hold H : Nat) (B : List Int) (v : Value) (l : List Sh) (ns : List Nat) (S : Nat → Prop) (w : World) (hw : BasesOk w) (hp : SPrm p) (n1 : 1 ≤ need) (n2 : need ≤ hold) (n3 : hold ≤ 16) (n4 : hold < p)
    (hv : ShAt w S v l) (hS : ∀ b, S b → b < w.heap.size) (hnl : need ≤ l.length) (l1 : l.length ≤ 9) (ho : PartsOk p hold l)
    (hr : rob (small p need l) l.length need [] = some ns) (hnl2 : ns.length = need) (hH : hAt p (pickN l ns) 0 need = H) (hB : wrL p (pickN l ns) l = B) :
    Calls Tryd.prog 43 #[.agg #[.int .i64 (p : Int), .int .i64 (need : Int), .int .i64 (hold : Int)], v] w (RobPost H B w) := by
  have h4 := hp.2.2.2
  have h3 := hp.2.2.1
  obtain ⟨A, n, c, rfl, hn, hnc, hc⟩ := id hv
  have HV := Lib.hid hv
  have HN := Lib.hid hn
  have HO := Lib.hid ho
  have HW := Lib.hid hw
  have HR := Lib.hid hr
  have nl1 : n ≤ 9 := by omega
  have nl0 : need ≤ n := by omega
  have b0 : Blk ((w.alloc (.cells #[.int .i64 (p : Int), .int .i64 (need : Int), .int .i64 (hold : Int)] 29)).alloc (.cells #[.slice A n c] 32)) w.heap.size 29 #[.int .i64 (p : Int), .int .i64 (need : Int), .int .i64 (hold : Int)] := (Blk.new w _ _).alloc _
  have b1 : Blk ((w.alloc (.cells #[.int .i64 (p : Int), .int .i64 (need : Int), .int .i64 (hold : Int)] 29)).alloc (.cells #[.slice A n c] 32)) (w.heap.size + 1) 32 #[.slice A n c] := by
    have := Blk.new (w.alloc (.cells #[.int .i64 (p : Int), .int .i64 (need : Int), .int .i64 (hold : Int)] 29)) 32 #[.slice A n c]
    rwa [World.size_alloc] at this
  have hb : Below w.heap.size w ((w.alloc (.cells #[.int .i64 (p : Int), .int .i64 (need : Int), .int .i64 (hold : Int)] 29)).alloc (.cells #[.slice A n c] 32)) := ((Below.refl _ w).alloc (Nat.le_refl _) _).alloc (by simp only [World.size_alloc]; omega) _
  clear hv hn ho hw hr hc
  go_enter Tryd.func43, Tryd.ntmps43
  have c0 := b0.cell 0
  have c1 := b0.cell 1
  have c2 := b0.cell 2
  have c3 := b1.cell 0
  go_wp2_with fail
  generalize ((w.alloc (.cells #[.int .i64 (p : Int), .int .i64 (need : Int), .int .i64 (hold : Int)] 29)).alloc (.cells #[.slice A n c] 32)) = w2 at *
  have hv2 : ShAt w2 S (.slice A n c) l := HV.out.keep fun b hb' => hb.block b (hS b hb')
  have hS2 : ∀ b, S b → b < w2.heap.size := fun b hb' => Nat.lt_of_lt_of_le (hS b hb') hb.size
  refine (h_parts p need hold (.slice A n c) l S w2 (HW.out.below hb) hp n1 n2 n3 n4 hv2 hS2 (by omega) HO.out).mono ?_
  rintro e w3 ⟨rfl, hb3⟩
  have d0 := b0.below hb3 b0.lt
  have d1 := b1.below hb3 b1.lt
  have hb4 := hb.trans (hb3.mono hb.size)
  have hsz3 := hb4.size
  clear c0 c1 c2 c3 b0 b1 hb hb3 hv2 hS2
  have c1 : (w3.alloc (.cells #[.int .i64 (p : Int), .int .i64 (2 * (p : Int) + 1)] 78)).cell? ⟨w.heap.size, 1, none⟩ = some (.int .i64 (need : Int)) := (d0.alloc _).cell 1
  have c3 : (w3.alloc (.cells #[.int .i64 (p : Int), .int .i64 (2 * (p : Int) + 1)] 78)).cell? ⟨w.heap.size + 1, 0, none⟩ = some (.slice A n c) := (d1.alloc _).cell 0
  have e0 : Blk ((((w3.alloc (.cells #[.int .i64 (p : Int), .int .i64 (2 * (p : Int) + 1)] 78)).alloc (.cells #[.int .i64 0] 3)).alloc (.cells #[.slice none 0 0] 22)).alloc (.cells #[.int .i64 9] 33)) w.heap.size 29 #[.int .i64 (p : Int), .int .i64 (need : Int), .int .i64 (hold : Int)] := (((d0.alloc _).alloc _).alloc _).alloc _
  have e1 : Blk ((((w3.alloc (.cells #[.int .i64 (p : Int), .int .i64 (2 * (p : Int) + 1)] 78)).alloc (.cells #[.int .i64 0] 3)).alloc (.cells #[.slice none 0 0] 22)).alloc (.cells #[.int .i64 9] 33)) (w.heap.size + 1) 32 #[.slice A n c] := (((d1.alloc _).alloc _).alloc _).alloc _
  have e2 : Blk ((((w3.alloc (.cells #[.int .i64 (p : Int), .int .i64 (2 * (p : Int) + 1)] 78)).alloc (.cells #[.int .i64 0] 3)).alloc (.cells #[.slice none 0 0] 22)).alloc (.cells #[.int .i64 9] 33)) w3.heap.size 78 #[.int .i64 (p : Int), .int .i64 (2 * (p : Int) + 1)] := (((Blk.new w3 _ _).alloc _).alloc _).alloc _
  have e3 : Blk ((((w3.alloc (.cells #[.int .i64 (p : Int), .int .i64 (2 * (p : Int) + 1)] 78)).alloc (.cells #[.int .i64 0] 3)).alloc (.cells #[.slice none 0 0] 22)).alloc (.cells #[.int .i64 9] 33)) (w3.heap.size + 1) 3 #[.int .i64 0] := by
    have := Blk.new (w3.alloc (.cells #[.int .i64 (p : Int), .int .i64 (2 * (p : Int) + 1)] 78)) 3 #[.int .i64 0]
    rw [World.size_alloc] at this
    exact (this.alloc _).alloc _
  have e4 : Blk ((((w3.alloc (.cells #[.int .i64 (p : Int), .int .i64 (2 * (p : Int) + 1)] 78)).alloc (.cells #[.int .i64 0] 3)).alloc (.cells #[.slice none 0 0] 22)).alloc (.cells #[.int .i64 9] 33)) (w3.heap.size + 1 + 1) 22 #[.slice none 0 0] := by
    have := Blk.new ((w3.alloc (.cells #[.int .i64 (p : Int), .int .i64 (2 * (p : Int) + 1)] 78)).alloc (.cells #[.int .i64 0] 3)) 22 #[.slice none 0 0]
    rw [World.size_alloc, World.size_alloc] at this
    exact this.alloc _
  have e5 : Blk ((((w3.alloc (.cells #[.int .i64 (p : Int), .int .i64 (2 * (p : Int) + 1)] 78)).alloc (.cells #[.int .i64 0] 3)).alloc (.cells #[.slice none 0 0] 22)).alloc (.cells #[.int .i64 9] 33)) (w3.heap.size + 1 + 1 + 1) 33 #[.int .i64 9] := by
    have := Blk.new (((w3.alloc (.cells #[.int .i64 (p : Int), .int .i64 (2 * (p : Int) + 1)] 78)).alloc (.cells #[.int .i64 0] 3)).alloc (.cells #[.slice none 0 0] 22)) 33 #[.int .i64 9]
    rw [World.size_alloc, World.size_alloc, World.size_alloc] at this
    exact this
  have hb7 : Below w.heap.size w ((((w3.alloc (.cells #[.int .i64 (p : Int), .int .i64 (2 * (p : Int) + 1)] 78)).alloc (.cells #[.int .i64 0] 3)).alloc (.cells #[.slice none 0 0] 22)).alloc (.cells #[.int .i64 9] 33)) := (((hb4.alloc hsz3 _).alloc (by simp only [World.size_alloc]; omega) _).alloc (by simp only [World.size_alloc]; omega) _).alloc (by simp only [World.size_alloc]; omega) _
  have k1 := e0.cell 1
  have k3 := e1.cell 0
  have hsz7 : ((((w3.alloc (.cells #[.int .i64 (p : Int), .int .i64 (2 * (p : Int) + 1)] 78)).alloc (.cells #[.int .i64 0] 3)).alloc (.cells #[.slice none 0 0] 22)).alloc (.cells #[.int .i64 9] 33)).heap.size = w3.heap.size + 4 := by simp only [World.size_alloc]
  clear d0 d1
  go_wp2_with fail
  generalize ((((w3.alloc (.cells #[.int .i64 (p : Int), .int .i64 (2 * (p : Int) + 1)] 78)).alloc (.cells #[.int .i64 0] 3)).alloc (.cells #[.slice none 0 0] 22)).alloc (.cells #[.int .i64 9] 33)) = w7 at *
  have hin : RobIn p need hold (w.heap.size + 1) w3.heap.size w.heap.size (.slice A n c) l S w7 := ⟨e1, e2, e0, HV.out.keep fun b hb' => hb7.block b (hS b hb'), fun b hb' => Nat.lt_of_lt_of_le (hS b hb') hb7.size⟩
  have hno : RobNo (w3.heap.size + 1) (w3.heap.size + 1 + 1) (w3.heap.size + 1 + 1 + 1) w7 := ⟨e3, e4, e5⟩
  have hr := HR.out
  rw [← HN.out] at hr
  refine (h_choices p need hold n (w.heap.size + 1) w3.heap.size w.heap.size (w3.heap.size + 1) (w3.heap.size + 1 + 1) (w3.heap.size + 1 + 1 + 1) (.slice A n c) l ns S w7 hp n1 hnl HN.out l1 HO.out n4 (by omega) (by omega) (by omega) hin hno hr).mono ?_
  rintro e w8 ⟨rfl, hy, hf⟩
  obtain ⟨y0, ⟨vx, y1, hox⟩, y2⟩ := hy
  rw [hnl2, hH] at y0
  rw [hB] at hox
  have m0 : w8.cell? ⟨w3.heap.size + 1, 0, none⟩ = some (.int .i64 (H : Int)) := y0.cell 0
  have m1 : w8.cell? ⟨w3.heap.size + 1 + 1, 0, none⟩ = some vx := y1.cell 0
  have m2 : w8.cell? ⟨w3.heap.size + 1 + 1 + 1, 0, none⟩ = some (.int .i64 0) := y2.cell 0
  have hbl : Below w.heap.size w w8 := ⟨hf.os.trans hb7.os, hf.tape.trans hb7.tape, hf.output.trans hb7.output, Nat.le_trans hb7.size hf.size, fun b hb' => (hf.block b (Nat.lt_of_lt_of_le hb' hb7.size) (by omega) (by omega) (by omega)).trans (hb7.block b hb')⟩
  have hox2 := own_mono hox hb7.size
  obtain ⟨Ax, cx, rfl⟩ := own_form hox2
  have HOX := Lib.hid hox2
  clear hox hox2 hin hno hr hf y0 y1 y2 e0 e1 e2 e3 e4 e5 hb7 hsz7 k1 k3 c1 c3
  go_wp2_with fail
  go_quiet (fail)
  go_wp2_with fail
  refine bodyPost_ret (v := .tuple #[.int .i64 (H : Int), .slice Ax B.length cx, .int .i64 0]) (by simp [results, Tryd.results43, go_sem]) rfl ⟨_, rfl, HOX.out, ⟨hbl.os, hbl.tape, hbl.output, hbl.size, hbl.block⟩⟩
end Go.Proofs.YtmneokkdkgflkaaDoor
