/- Contracts: the handle of a name. -/
import Derived.Test.YtmneokkdkgflkaaDoorHanPar
set_option linter.unusedVariables false
set_option linter.unusedSimpArgs false
namespace Go.Proofs.YtmneokkdkgflkaaDoor
open Go.RowKit Num

theorem shAt_take (L : List Sh) (n k : Nat) (h : k < n) : shAt (L.take n) k = shAt L k := by
  unfold shAt; rw [List.getD_eq_getElem?_getD, List.getD_eq_getElem?_getD, List.getElem?_take, if_pos h]
theorem ShAt.take {w : World} {S : Nat → Prop} {A : Option Addr} {n c m : Nat} {L : List Sh} (h : ShAt w S (.slice A n c) L) (hm : m ≤ n) : ShAt w S (.slice A m c) (L.take m) := by
  obtain ⟨A', n', c', hv, h2, h3, h4⟩ := h
  injection hv with e1 e2 e3
  subst e1 e2 e3
  refine ⟨_, m, _, rfl, by rw [List.length_take]; omega, by omega, fun hm' => ?_⟩
  obtain ⟨b, off, hA, hS, hc⟩ := h4 (by omega)
  refine ⟨b, off, hA, hS, fun k hk => ?_⟩
  rw [shAt_take L m k hk]
  exact hc k (by omega)
theorem PartsOk.take {p hold : Nat} {L : List Sh} (h : PartsOk p hold L) (m : Nat) : PartsOk p hold (L.take m) := by
  have hl : (L.take m).length ≤ L.length := by rw [List.length_take]; omega
  have hm : (L.take m).length ≤ m := by rw [List.length_take]; omega
  refine ⟨fun k hk => ?_, fun i j hi hj hne => ?_, fun k hk => ?_, fun k hk => ?_⟩
  · rw [shAt_take L m k (by omega)]; exact h.holder k (by omega)
  · rw [shAt_take L m i (by omega), shAt_take L m j (by omega)]; exact h.once i j (by omega) (by omega) hne
  · rw [shAt_take L m k (by omega)]; exact h.one k (by omega)
  · rw [shAt_take L m k (by omega)]; exact h.grp k (by omega)
def Int2Below (a b : Int) (w : World) (e : Ending) (w' : World) : Prop := e = .returned (.tuple #[.int .i64 a, .int .i64 b]) ∧ Below w.heap.size w w'
set_option maxRecDepth 100000 in
set_option maxHeartbeats 400000 in
theorem h_Combine (p need hold : Nat) (v : Value) (L : List Sh) (S : Nat → Prop) (w : World) (hw : BasesOk w) (hp : SPrm p) (n1 : 1 ≤ need) (n2 : need ≤ hold) (n3 : hold ≤ 16) (n4 : hold < p)
    (hv : ShAt w S v L) (hS : ∀ b, S b → b < w.heap.size) (hl : L.length ≤ 16) (hn : need ≤ L.length) (ho : PartsOk p hold L) :
    Calls Tryd.prog 49 #[.agg #[.int .i64 (p : Int), .int .i64 (need : Int), .int .i64 (hold : Int)], v] w (Int2Below (hAt p (L.take need) 0 need) 0 w) := by
  have h4 := hp.2.2.2
  have h3 := hp.2.2.1
  have hpp := hp.1
  obtain ⟨A, n, c, rfl, hnl, hnc, hc⟩ := id hv
  obtain ⟨j0, hj, hy0, hy1, hy2⟩ := info_parts infoS
  have hnn : need ≤ n := by omega
  have hsl := fun (W : World) => run_slice_hi (P := Tryd.prog) W 32 63 j0 Tryd.underlying32 hj A n c need (by omega) (need : Int) rfl
  have hlt := (L.take need).length
  have hw0 := hw.alloc (.cells #[.int .i64 (p : Int), .int .i64 (need : Int), .int .i64 (hold : Int)] 29)
  have HW0 := Lib.hid hw0
  have hv1 : ShAt (w.alloc (.cells #[.int .i64 (p : Int), .int .i64 (need : Int), .int .i64 (hold : Int)] 29)) S (.slice A n c) L := hv.keep fun b hb => Below.heap_alloc w _ b (hS b hb)
  have hS1 : ∀ b, S b → b < (w.alloc (.cells #[.int .i64 (p : Int), .int .i64 (need : Int), .int .i64 (hold : Int)] 29)).heap.size := fun b hb => by have := hS b hb; simp; omega
  have HV1 := Lib.hid hv1
  have HS1 := Lib.hid hS1
  clear hv1 hS1
  have HV := Lib.hid hv
  have HO := Lib.hid ho
  have HP := Lib.hid hp
  have tl : decide ((n : Int) < (need : Int)) = false := decide_eq_false (by omega)
  have tl2 : decide (n < need) = false := decide_eq_false (by omega)
  have hn16 : n ≤ 16 := by omega
  have hll : L.length = n := hnl.symm
  have HNL := Lib.hid hnl
  have hLl : L.length ≤ 16 := hl
  have hnL : need ≤ L.length := hn
  clear hw hw0 hv ho hp hc hnl hll hlt hl hn
  go_enter Tryd.func49, Tryd.ntmps49
  go_wp2_with fail
  refine (h_parts p need hold _ L S _ HW0.out HP.out n1 n2 n3 n4 HV1.out HS1.out hLl HO.out).mono ?_
  rintro e w1 ⟨rfl, hb1⟩
  have s1 := hb1.size
  have kp1 : Blk w1 w.heap.size 29 #[.int .i64 (p : Int), .int .i64 (need : Int), .int .i64 (hold : Int)] := (Blk.new w _ _).below hb1 (by simp)
  have hw1 : Below w.heap.size w w1 := ((Below.refl _ _).alloc (Nat.le_refl _) _).trans (hb1.mono (by simp))
  have p1 : w1.cell? ⟨w.heap.size, 1, none⟩ = some (.int .i64 (need : Int)) := kp1.cell 1
  have l1 : w.heap.size < w1.heap.size := kp1.lt
  have HB1 := Lib.hid hw1
  clear kp1 hw1 hb1 s1
  go_wp2_with fail
  have ha : Below w1.heap.size w1 (w1.alloc (.cells #[.int .i64 (p : Int), .int .i64 (2 * (p : Int) + 1)] 78)) := (Below.refl _ _).alloc (Nat.le_refl _) _
  have t0 : (w1.alloc (.cells #[.int .i64 (p : Int), .int .i64 (2 * (p : Int) + 1)] 78)).cell? ⟨w1.heap.size, 0, none⟩ = some (.int .i64 (p : Int)) := by rw [World.cell?_alloc_new]; rfl
  have t1 : (w1.alloc (.cells #[.int .i64 (p : Int), .int .i64 (2 * (p : Int) + 1)] 78)).cell? ⟨w1.heap.size, 1, none⟩ = some (.int .i64 (2 * (p : Int) + 1)) := by rw [World.cell?_alloc_new]; rfl
  have t2 := (ha.cell (p := ⟨w.heap.size, 1, none⟩) l1).trans p1
  have hba := HB1.out.trans (ha.mono (by omega))
  generalize (w1.alloc (.cells #[.int .i64 (p : Int), .int .i64 (2 * (p : Int) + 1)] 78)) = W1 at *
  have hva : ShAt W1.drew S (.slice A need c) (L.take need) := (HV.out.take hnn).keep fun b hb => (hba.drew).block b (hS b hb)
  have hSW : ∀ b, S b → b < W1.drew.heap.size := fun b hb => by have := hS b hb; have := hba.drew.size; omega
  have HVA := Lib.hid hva
  clear hva p1 ha
  go_region_held3 (fun w' => w'.cell? ⟨w1.heap.size, 0, none⟩ = some (.int .i64 (p : Int)) ∧ w'.cell? ⟨w1.heap.size, 1, none⟩ = some (.int .i64 (2 * (p : Int) + 1)) ∧ w'.cell? ⟨w.heap.size, 1, none⟩ = some (.int .i64 (need : Int)) ∧ Below w.heap.size w w')
    (first
      | exact ⟨t0, t1, t2, hba.drew⟩
      | (go_split_ands
         refine ⟨?_, ?_, ?_, ?_⟩
         · (rw [hbk.cell (World.block_lt_of_cell? _ _ ‹_›)]; assumption)
         · (rw [hbk.cell (World.block_lt_of_cell? _ _ ‹_›)]; assumption)
         · (rw [hbk.cell (World.block_lt_of_cell? _ _ ‹_›)]; assumption)
         · exact Below.trans ‹Below w.heap.size w _› (hbk.mono (‹Below w.heap.size w _›).size)))
    (first
      | (go_at_call 72; ((with_reducible refine (h_at p hold _ (L.take need) S 0 _ hpp h4 HVA.out hSW (by rw [List.length_take]; omega) (by rw [List.length_take]; omega) (by decide) (by decide) (HO.out.take need) n4).mono ?_); rintro e wk ⟨rfl, hbk⟩)))
  all_goals
    go_split_ands
    have hbf : Below w.heap.size w wk := by assumption
    have hle : (L.take need).length = need := by rw [List.length_take]; omega
    go_wp2_with fail
    go_ret2
    exact ⟨rfl, hbf⟩

/-- One share: its holder, one value below p. -/
def PartPost (p x h y : Nat) (w : World) (e : Ending) (w' : World) : Prop :=
  ∃ v, e = .returned (.tuple #[.agg #[.int .i64 (h : Int), v], .int .i64 0]) ∧ w'.ownsRow w.heap.size 3 1 v 1 [.int .i64 (pw (2 * p + 1) x y : Int)] ∧ Below w.heap.size w w'
set_option maxRecDepth 100000 in
set_option maxHeartbeats 2000000 in
theorem h_Part (p x h y : Nat) (A : Option Addr) (c : Nat) (b off : Nat) (w : World) (hw : BasesOk w) (hp : SPrm p) (hx : inG p (2 * p + 1) (x : Int) = true) (hy : y < p) (hA : A = some ⟨b, off, none⟩) (hb : b < w.heap.size) (hc : w.cell? ⟨b, off, none⟩ = some (.int .i64 (y : Int))) (h1c : 1 ≤ c) :
    Calls Tryd.prog 42 #[.int .i64 (p : Int), .int .i64 (x : Int), .agg #[.int .i64 (h : Int), .slice A 1 c]] w (PartPost p x h y w) := by
  subst hA
  have h4 := hp.2.2.2
  have h3 := hp.2.2.1
  have hxb := inG_bd hx
  have hw0 := fun o o' => (hw.alloc o).alloc o'
  have HW0 := Lib.hid hw0
  have HP := Lib.hid hp
  have HX := Lib.hid hx
  have yp : (y : Int) < (p : Int) := by omega
  clear hw hw0 hp hx
  go_enter Tryd.func42, Tryd.ntmps42
  go_wp2_with fail
  refine (h_of p _ (HW0.out _ _) HP.out).mono ?_
  rintro e w1 ⟨rfl, hb1⟩
  have s1 := hb1.size
  have ks1 : Blk w1 w.heap.size 63 #[.int .i64 (h : Int), .slice (some ⟨b, off, none⟩) 1 c] := ((Blk.new w _ _).alloc _).below hb1 (by simp; omega)
  have kr1 : Blk w1 (w.heap.size + 1) 63 #[.int .i64 0, .slice none 0 0] := by
    have := Blk.new (w.alloc (.cells #[.int .i64 (h : Int), .slice (some ⟨b, off, none⟩) 1 c] 63)) 63 #[.int .i64 0, .slice none 0 0]
    exact (by simpa using this : Blk _ (w.heap.size + 1) _ _).below hb1 (by simp)
  have hw1 : Below w.heap.size w w1 := (((Below.refl _ _).alloc (Nat.le_refl _) _).alloc (by simp) _).trans (hb1.mono (by simp; omega))
  have l1 : w.heap.size + 1 < w1.heap.size := kr1.lt
  have l1' : w.heap.size < w1.heap.size := by omega
  have hc1 := (hw1.cell (p := ⟨b, off, none⟩) hb).trans hc
  have r0 : w1.cell? ⟨w.heap.size, 0, none⟩ = some (.int .i64 (h : Int)) := ks1.cell 0
  have r1 : w1.cell? ⟨w.heap.size, 1, none⟩ = some (.slice (some ⟨b, off, none⟩) 1 c) := ks1.cell 1
  have lb : b < w1.heap.size := by omega
  have KS1 := Lib.hid ks1
  have KR1 := Lib.hid kr1
  have HB1 := Lib.hid hw1
  clear ks1 kr1 hw1 hb1 s1 hc
  go_wp2_with fail
  have ha : Below w1.heap.size w1 (w1.alloc (.cells #[.int .i64 (p : Int), .int .i64 (2 * (p : Int) + 1)] 78)) := (Below.refl _ _).alloc (Nat.le_refl _) _
  have kg2 : Blk (w1.alloc (.cells #[.int .i64 (p : Int), .int .i64 (2 * (p : Int) + 1)] 78)) w1.heap.size 78 #[.int .i64 (p : Int), .int .i64 (2 * (p : Int) + 1)] := Blk.new _ _ _
  have lW : w1.heap.size < (w1.alloc (.cells #[.int .i64 (p : Int), .int .i64 (2 * (p : Int) + 1)] 78)).heap.size := by simp
  refine (h_hasE p x _ h4 (by omega) HX.out).mono ?_
  rintro e w2 ⟨rfl, hb2⟩
  have hall := ha.trans (hb2.mono (by omega))
  have ks2 := KS1.out.below hall (by omega)
  have kr2 := KR1.out.below hall (by omega)
  have kg3 := kg2.below hb2 lW
  have hc2 := (hall.cell (p := ⟨b, off, none⟩) lb).trans hc1
  have s2 := hall.size
  have hb12 := HB1.out.trans (hall.mono (by omega))
  have q0 : w2.cell? ⟨w.heap.size, 0, none⟩ = some (.int .i64 (h : Int)) := ks2.cell 0
  have q1 : w2.cell? ⟨w.heap.size, 1, none⟩ = some (.slice (some ⟨b, off, none⟩) 1 c) := ks2.cell 1
  have q2 : w2.cell? ⟨w1.heap.size, 0, none⟩ = some (.int .i64 (p : Int)) := kg3.cell 0
  have q3 : w2.cell? ⟨w1.heap.size, 1, none⟩ = some (.int .i64 (2 * (p : Int) + 1)) := kg3.cell 1
  have l2 : w1.heap.size < w2.heap.size := kg3.lt
  have KR2 := Lib.hid kr2
  have HB2 := Lib.hid hb12
  clear ha kg2 lW hb2 hall ks2 kr2 kg3 r0 r1 hc1 hb12 s2
  go_wp2_with fail
  have lw2 : w.heap.size + 1 < w2.heap.size := by omega
  have lw2' : w.heap.size < w2.heap.size := by omega
  go_region_law (first
    | (go_simp; go_at_call 51; ((with_reducible refine (h_gpI p x (y : Int) _ (by omega) h4 (by omega) (by omega) (by omega)).mono ?_); rintro e wk ⟨rfl, hbk⟩; have skk := hbk.size; have u0 : wk.cell? ⟨w.heap.size, 0, none⟩ = some (.int .i64 (h : Int)) := (hbk.cell (p := ⟨w.heap.size, 0, none⟩) lw2').trans q0; have kk := (KR2.out.drew).below hbk lw2; have u1 : wk.cell? ⟨w.heap.size + 1, 0, none⟩ = some (.int .i64 0) := kk.cell 0; have u2 : wk.cell? ⟨w.heap.size + 1, 1, none⟩ = some (.slice none 0 0) := kk.cell 1; have u3 := kk.frozen 0; have u4 := kk.frozen 1; have u5 : w.heap.size + 1 < wk.heap.size := kk.lt; have u8 : w.heap.size < wk.heap.size := Nat.lt_trans (Nat.lt_succ_self _) u5; have KKK := Lib.hid kk; clear kk; have u6 : w.heap.size + 1 ≠ wk.heap.size := Nat.ne_of_lt u5; have u7 : wk.heap.size ≠ w.heap.size + 1 := Nat.ne_of_gt u5)))
  all_goals
    go_wp2_with fail
    refine bodyPost_ret (v := .tuple #[.agg #[.int .i64 (h : Int), .slice (some ⟨wk.heap.size, 0, none⟩) 1 1], .int .i64 0]) (by simp [results, Tryd.results42, go_sem, u1, u2, u5, u8]) rfl ⟨_, rfl, ?_, ?_⟩
    · have o1 := own_built ((wk.setCell ⟨w.heap.size + 1, 0, none⟩ (.int .i64 (h : Int))).setCell ⟨w.heap.size + 1, 1, none⟩ (.slice (some ⟨wk.heap.size, 0, none⟩) 1 1)) w.heap.size 3 (.int .i64 (pw (2 * p + 1) x y : Int)) (by simp; omega)
      have e : ((wk.setCell ⟨w.heap.size + 1, 0, none⟩ (.int .i64 (h : Int))).setCell ⟨w.heap.size + 1, 1, none⟩ (.slice (some ⟨wk.heap.size, 0, none⟩) 1 1)).heap.size = wk.heap.size := by simp
      rw [e] at o1
      exact o1
    · have o1 : Below w.heap.size w wk := HB2.out.drew.trans (hbk.mono (by simp; omega))
      exact ((o1.setCell (p := ⟨w.heap.size + 1, 0, none⟩) (Nat.le_succ _) _).setCell (p := ⟨w.heap.size + 1, 1, none⟩) (Nat.le_succ _) _).alloc (by simp; omega) _
end Go.Proofs.YtmneokkdkgflkaaDoor
