/- Contracts: parts that are checked and combined. -/
import Derived.Test.YtmneokkdkgflkaaDoorHanAt
set_option linter.unusedVariables false
set_option linter.unusedSimpArgs false
namespace Go.Proofs.YtmneokkdkgflkaaDoor
open Go.RowKit Num

set_option maxHeartbeats 400000 in
theorem s_Valid (p need hold : Nat) (w : World) (hw : BasesOk w) (hp : Prm p) (h2 : p ≤ 1073741824) (n1 : 1 ≤ need) (n2 : need ≤ hold) (n3 : hold ≤ 16) (n4 : hold < p) :
    Calls Tryd.prog 88 #[.agg #[.int .i64 (p : Int), .int .i64 (need : Int), .int .i64 (hold : Int)]] w (BoolBelow true w) := by
  have hw1 := fun o => hw.alloc o
  have t1 : decide ((1 : Int) ≤ (need : Int)) = true := decide_eq_true (by omega)
  have t2 : decide ((need : Int) ≤ (hold : Int)) = true := decide_eq_true (by omega)
  have t3 : decide ((hold : Int) ≤ 16) = true := decide_eq_true (by omega)
  have t4 : decide ((hold : Int) < (p : Int)) = true := decide_eq_true (by omega)
  go_enter Tryd.func88, Tryd.ntmps88
  go_wp2_with fail
  refine (f_Valid p _ (hw1 _) hp h2).mono ?_
  rintro e w' ⟨rfl, rfl⟩
  go_wp2_with fail
  go_ret
  exact ⟨rfl, (Below.refl _ _).alloc (Nat.le_refl _) _⟩

theorem h_hasE (p n : Nat) (w : World) (hp : p ≤ 1073741823) (h0 : 1 ≤ p) (hg : inG p (2 * p + 1) (n : Int) = true) :
    Calls Tryd.prog 59 #[.agg #[.int .i64 (p : Int), .int .i64 (2 * (p : Int) + 1)], .int .i64 (n : Int)] w (BoolBelow true w) :=
  h_hasT p (2 * p + 1) n w (by omega) (by omega) (by omega) hg
/-- Which holders have been seen among the first k shares. -/
def seenV (L : List Sh) (k : Nat) (j : Nat) : Value := .bool (decide (∃ i, i < k ∧ (shAt L i).1 = (j : Int)))
def PartsPost (p : Nat) (w : World) (e : Ending) (w' : World) : Prop :=
  e = .returned (.tuple #[.agg #[.int .i64 (p : Int), .int .i64 (2 * (p : Int) + 1)], .bool true]) ∧ Below w.heap.size w w'
set_option maxRecDepth 100000 in
set_option maxHeartbeats 4000000 in
theorem h_parts (p need hold : Nat) (v : Value) (L : List Sh) (S : Nat → Prop) (w : World) (hw : BasesOk w) (hp : SPrm p) (n1 : 1 ≤ need) (n2 : need ≤ hold) (n3 : hold ≤ 16) (n4 : hold < p)
    (hv : ShAt w S v L) (hS : ∀ b, S b → b < w.heap.size) (hl : L.length ≤ 16) (ho : PartsOk p hold L) :
    Calls Tryd.prog 68 #[.agg #[.int .i64 (p : Int), .int .i64 (need : Int), .int .i64 (hold : Int)], v] w (PartsPost p w) := by
  have h4 := hp.2.2.2
  have h3 := hp.2.2.1
  obtain ⟨A, n, c, rfl, hn, hnc, hc⟩ := id hv
  have hn1 : n ≤ 16 := by omega
  have hw0 := fun o o' => (hw.alloc o).alloc o'
  have HW := Lib.hid hw
  have HW0 := Lib.hid hw0
  have HV := Lib.hid hv
  have HN := Lib.hid hn
  have HO := Lib.hid ho
  have HP := Lib.hid hp
  clear hw hw0 hv hn ho hp hc
  go_enter Tryd.func68, Tryd.ntmps68
  go_wp2_with fail
  refine (h_of p _ (HW0.out _ _) HP.out).mono ?_
  rintro e w1 ⟨rfl, hb1⟩
  have s1 := hb1.size
  have kp1 : Blk w1 w.heap.size 29 #[.int .i64 (p : Int), .int .i64 (need : Int), .int .i64 (hold : Int)] := ((Blk.new w _ _).alloc _).below hb1 (by simp; omega)
  have kr1 : Blk w1 (w.heap.size + 1) 78 #[.int .i64 0, .int .i64 0] := by
    have := Blk.new (w.alloc (.cells #[.int .i64 (p : Int), .int .i64 (need : Int), .int .i64 (hold : Int)] 29)) 78 #[.int .i64 0, .int .i64 0]
    exact (by simpa using this : Blk _ (w.heap.size + 1) _ _).below hb1 (by simp)
  have hw1 : Below w.heap.size w w1 := (((Below.refl _ _).alloc (Nat.le_refl _) _).alloc (by simp) _).trans (hb1.mono (by simp; omega))
  have l1 : w.heap.size + 1 < w1.heap.size := kr1.lt
  have l1' : w.heap.size < w1.heap.size := by omega
  have KP1 := Lib.hid kp1
  have KR1 := Lib.hid kr1
  have HB1 := Lib.hid hw1
  have p0 : w1.cell? ⟨w.heap.size, 0, none⟩ = some (.int .i64 (p : Int)) := kp1.cell 0
  have p1 : w1.cell? ⟨w.heap.size, 1, none⟩ = some (.int .i64 (need : Int)) := kp1.cell 1
  have p2 : w1.cell? ⟨w.heap.size, 2, none⟩ = some (.int .i64 (hold : Int)) := kp1.cell 2
  have hbo : ∀ o, BasesOk (w1.alloc o) := fun o => (HW.out.below hw1).alloc o
  have HBO := Lib.hid hbo
  clear kp1 kr1 hw1 hb1 s1 hbo
  go_wp2_with fail
  refine (s_Valid p need hold _ (HBO.out _) HP.out.1 (by omega) n1 n2 n3 n4).mono ?_
  rintro e w2 ⟨rfl, hb2⟩
  have s2 := hb2.size
  have kp2 : Blk w2 w.heap.size 29 #[.int .i64 (p : Int), .int .i64 (need : Int), .int .i64 (hold : Int)] := (KP1.out.alloc _).below hb2 (by simp; omega)
  have kr2 : Blk w2 (w.heap.size + 1) 78 #[.int .i64 0, .int .i64 0] := (KR1.out.alloc _).below hb2 (by simp; omega)
  have kg2 : Blk w2 w1.heap.size 78 #[.int .i64 (p : Int), .int .i64 (2 * (p : Int) + 1)] := (Blk.new w1 _ _).below hb2 (by simp)
  have hbw2 : Below w.heap.size w w2 := (HB1.out.alloc (by omega) _).trans (hb2.mono (by simp; omega))
  have l2 : w1.heap.size < w2.heap.size := kg2.lt
  have KP2 := Lib.hid kp2
  have KR2 := Lib.hid kr2
  have KG2 := Lib.hid kg2
  have HB2 := Lib.hid hbw2
  clear kp2 kr2 kg2 hbw2 hb2 s2 p0 p1 p2
  go_wp2_with fail
  go_loopw [27] (fun t wr => ∃ k : Nat, k ≤ n ∧ t = .int .i64 k ∧ ArrV wr w2.heap.size 17 (seenV L k) ∧ Below w2.heap.size w2 wr ∧ w2.heap.size < wr.heap.size) (fun t _ => n - (intOf t).toNat)
  case atStart =>
    refine ⟨0, by omega, rfl, ⟨fun j hj => ?_, fun j hj => World.frozen?_alloc_new _ _ _ _⟩, (Below.refl _ _).alloc (Nat.le_refl _) _, by simp⟩
    rw [World.cell?_alloc_new]
    have e : seenV L 0 j = .bool false := by unfold seenV; exact congrArg Value.bool (decide_eq_false (fun ⟨i, hi, _⟩ => Nat.not_lt_zero i hi))
    rw [e]
    have : ∀ j : Nat, j < 17 → (Array.replicate 17 (Value.bool false))[j]? = some (.bool false) := fun j hj => by rw [Array.getElem?_eq_getElem (by simp; exact hj)]; simp
    exact this j hj
  case round =>
    obtain ⟨k, hk, rfl, harr, hbl, hz⟩ := hrel
    by_cases hlt : k < n
    · have hkl : k < L.length := by have := HN.out; omega
      obtain ⟨A1, n1', c1, hv1, e1, e2, hcs⟩ := HV.out
      injection hv1 with v1 v2 v3
      subst v1 v2 v3
      obtain ⟨b, off, rfl, hSb, hcell⟩ := hcs (by omega)
      obtain ⟨u, m0, m1, hu⟩ := hcell k hlt
      obtain ⟨Au, nu, cu, rfl, f1, f2, f3⟩ := hu
      have hone := HO.out.one k hkl
      obtain ⟨bu, offu, rfl, hSu, hcu⟩ := f3 (by omega)
      have m2 := hcu 0 (by omega)
      have hgy := HO.out.grp k hkl
      have hby := inG_bd hgy
      have hho := HO.out.holder k hkl
      obtain ⟨H, hH⟩ : ∃ H, (shAt L k).1 = H := ⟨_, rfl⟩
      rw [hH] at m0 hho
      obtain ⟨y, hy⟩ := Int.eq_ofNat_of_zero_le (show 0 ≤ (shAt L k).2.getD 0 0 by omega)
      rw [hy] at m2 hgy hby
      rw [Nat.add_zero] at m2
      have bb : b < w.heap.size := hS b hSb
      have bbu : bu < w.heap.size := hS bu hSu
      have hww : Below w.heap.size w wr := HB2.out.trans (hbl.mono (by omega))
      have r0 := (hww.cell (p := ⟨b, off + k * 2, none⟩) bb).trans m0
      have r1 := (hww.cell (p := ⟨b, off + k * 2 + 1, none⟩) bb).trans m1
      have r2 := (hww.cell (p := ⟨bu, offu, none⟩) bbu).trans m2
      have kp := KP2.out.below hbl (by omega)
      have kg := KG2.out.below hbl (by omega)
      have r3 : wr.cell? ⟨w.heap.size, 2, none⟩ = some (.int .i64 (hold : Int)) := kp.cell 2
      have r4 : wr.cell? ⟨w1.heap.size, 0, none⟩ = some (.int .i64 (p : Int)) := kg.cell 0
      have r5 : wr.cell? ⟨w1.heap.size, 1, none⟩ = some (.int .i64 (2 * (p : Int) + 1)) := kg.cell 1
      have r6 := harr.cell H.toNat (by omega)
      have e6 : seenV L k H.toNat = .bool false := by
        unfold seenV; congr 1
        refine decide_eq_false ?_
        rintro ⟨i, hi, hii⟩
        exact HO.out.once i k (by omega) hkl (by omega) (by rw [hii, hH]; omega)
      rw [e6] at r6
      have hnu : nu = 1 := by omega
      subst hnu
      have z1 : b < wr.heap.size := by omega
      have z2 : bu < wr.heap.size := by omega
      have z3 : w.heap.size < wr.heap.size := by omega
      have z4 : w1.heap.size < wr.heap.size := by omega
      have qk : (k : Int) < (n : Int) := by omega
      have HH := Lib.hid hH
      have HBL := Lib.hid hbl
      have HARR := Lib.hid harr
      have HGY := Lib.hid hgy
      clear hcell hcu m0 m1 m2 kp kg e6 hH hbl harr hgy hww hy hone hcs f1 f2 f3 e1 e2
      go_wp2_with fail
      have ha : Below wr.heap.size wr (wr.alloc (.cells #[.int .i64 H, .slice (some ⟨bu, offu, none⟩) 1 cu] 63)) := (Below.refl _ _).alloc (Nat.le_refl _) _
      have t0 : (wr.alloc (.cells #[.int .i64 H, .slice (some ⟨bu, offu, none⟩) 1 cu] 63)).cell? ⟨wr.heap.size, 0, none⟩ = some (.int .i64 H) := by rw [World.cell?_alloc_new]; rfl
      have t1 : (wr.alloc (.cells #[.int .i64 H, .slice (some ⟨bu, offu, none⟩) 1 cu] 63)).cell? ⟨wr.heap.size, 1, none⟩ = some (.slice (some ⟨bu, offu, none⟩) 1 cu) := by rw [World.cell?_alloc_new]; rfl
      have t2 := (ha.cell (p := ⟨bu, offu, none⟩) z2).trans r2
      have t3 := (ha.cell (p := ⟨w.heap.size, 2, none⟩) z3).trans r3
      have t4 := (ha.cell (p := ⟨w1.heap.size, 0, none⟩) z4).trans r4
      have t5 := (ha.cell (p := ⟨w1.heap.size, 1, none⟩) z4).trans r5
      have t6 := (ha.cell (p := ⟨w2.heap.size, H.toNat, none⟩) hz).trans r6
      have hsa : wr.heap.size < (wr.alloc (.cells #[.int .i64 H, .slice (some ⟨bu, offu, none⟩) 1 cu] 63)).heap.size := by simp
      generalize (wr.alloc (.cells #[.int .i64 H, .slice (some ⟨bu, offu, none⟩) 1 cu] 63)) = W1 at *
      clear r0 r1 r2 r3 r4 r5 r6
      have d1 : decide (H < 1) = false := decide_eq_false (by omega)
      have d2 : decide ((hold : Int) < H) = false := decide_eq_false (by omega)
      have d3 : H < 17 := by omega
      have d4 : (0 : Int) ≤ H := by omega
      go_region_held3 (fun w' => w'.cell? ⟨wr.heap.size, 0, none⟩ = some (.int .i64 H) ∧ w'.cell? ⟨wr.heap.size, 1, none⟩ = some (.slice (some ⟨bu, offu, none⟩) 1 cu) ∧ w'.cell? ⟨bu, offu, none⟩ = some (.int .i64 (y : Int)) ∧ w'.cell? ⟨w.heap.size, 2, none⟩ = some (.int .i64 (hold : Int)) ∧ w'.cell? ⟨w1.heap.size, 0, none⟩ = some (.int .i64 (p : Int)) ∧ w'.cell? ⟨w1.heap.size, 1, none⟩ = some (.int .i64 (2 * (p : Int) + 1)) ∧ w'.cell? ⟨w2.heap.size, H.toNat, none⟩ = some (.bool false) ∧ Below W1.heap.size W1 w' ∧ wr.heap.size < w'.heap.size)
        (first
          | exact ⟨t0, t1, t2, t3, t4, t5, t6, (Below.refl _ _).drew, hsa⟩
          | (go_split_ands
             refine ⟨?_, ?_, ?_, ?_, ?_, ?_, ?_, ?_, ?_⟩
             · (rw [hbk.cell (by simp; omega)]; assumption)
             · (rw [hbk.cell (by simp; omega)]; assumption)
             · (rw [hbk.cell (by simp; omega)]; assumption)
             · (rw [hbk.cell (by simp; omega)]; assumption)
             · (rw [hbk.cell (by simp; omega)]; assumption)
             · (rw [hbk.cell (by simp; omega)]; assumption)
             · (rw [hbk.cell (by simp; omega)]; assumption)
             · exact Below.trans ‹Below W1.heap.size W1 _› (hbk.mono (‹Below W1.heap.size W1 _›).size)
             · (have := hbk.size; omega)))
        (first
          | (go_at_call 59; ((with_reducible refine (h_hasE p y _ h4 (by omega) HGY.out).mono ?_); rintro e wk ⟨rfl, hbk⟩)))
      go_split_ands
      have hwk : Below W1.heap.size W1 wk := by assumption
      have hall : Below wr.heap.size wr wk := ha.trans (hwk.mono (by omega))
      have u0 : wk.cell? ⟨wr.heap.size, 0, none⟩ = some (.int .i64 H) := by assumption
      have u6 : wk.cell? ⟨w2.heap.size, H.toNat, none⟩ = some (.bool false) := by assumption
      have uf : wk.frozen? ⟨w2.heap.size, H.toNat, none⟩ = false := (hall.frozen (p := ⟨w2.heap.size, H.toNat, none⟩) hz).trans (HARR.out.live H.toNat (by omega))
      have hak : ArrV wk w2.heap.size 17 (seenV L k) := ⟨fun j hj => (hall.cell (p := ⟨w2.heap.size, j, none⟩) hz).trans (HARR.out.cell j hj), fun j hj => (hall.frozen (p := ⟨w2.heap.size, j, none⟩) hz).trans (HARR.out.live j hj)⟩
      have hbk2 := HBL.out.trans (hall.mono (by omega))
      have hsk := hall.size
      have HAK := Lib.hid hak
      have HBK := Lib.hid hbk2
      clear hak hbk2 hall hwk t0 t1 t2 t3 t4 t5 t6 ha
      go_wp2_with fail
      go_roundw
      case measure => simp [intOf]; omega
      case rel =>
        refine ⟨k + 1, by omega, by go_num, ?_, HBK.out.setCell (p := ⟨w2.heap.size, H.toNat, none⟩) (Nat.le_refl _) _, by simp; omega⟩
        refine (HAK.out.upd (.bool true) (show H.toNat < 17 by omega)).congr fun j hj => ?_
        unfold updV
        by_cases hjH : j = H.toNat
        · rw [if_pos hjH]
          unfold seenV
          congr 1
          exact (decide_eq_true ⟨k, by omega, by rw [HH.out, hjH]; omega⟩).symm
        · rw [if_neg hjH]
          unfold seenV
          congr 1
          rw [decide_eq_decide]
          constructor
          · rintro ⟨i, hi, hii⟩; exact ⟨i, by omega, hii⟩
          · rintro ⟨i, hi, hii⟩
            refine ⟨i, ?_, hii⟩
            rcases Nat.lt_or_ge i k with h | h
            · exact h
            · have : i = k := by omega
              subst this
              rw [HH.out] at hii; omega
    · have hkn : k = n := by omega
      subst hkn
      have kp := KG2.out.below hbl (by omega)
      have kr := KR2.out.below hbl (by omega)
      have g0 : wr.cell? ⟨w1.heap.size, 0, none⟩ = some (.int .i64 (p : Int)) := kp.cell 0
      have g1 : wr.cell? ⟨w1.heap.size, 1, none⟩ = some (.int .i64 (2 * (p : Int) + 1)) := kp.cell 1
      have r0 : wr.cell? ⟨w.heap.size + 1, 0, none⟩ = some (.int .i64 0) := kr.cell 0
      have r1 : wr.cell? ⟨w.heap.size + 1, 1, none⟩ = some (.int .i64 0) := kr.cell 1
      have fr0 := kr.frozen 0
      have fr1 := kr.frozen 1
      have hbf := HB2.out.trans (hbl.mono (by omega))
      have HBF := Lib.hid hbf
      clear kp kr hbl harr hbf
      go_wp2_with fail
      refine bodyPost_ret (v := .tuple #[.agg #[.int .i64 (p : Int), .int .i64 (2 * (p : Int) + 1)], .bool true]) (by simp [results, Tryd.results68, go_sem, r0, r1]) rfl ⟨rfl, ?_⟩
      exact (HBF.out.setCell (p := ⟨w.heap.size + 1, 0, none⟩) (Nat.le_succ _) _).setCell (p := ⟨w.heap.size + 1, 1, none⟩) (Nat.le_succ _) _
end Go.Proofs.YtmneokkdkgflkaaDoor
