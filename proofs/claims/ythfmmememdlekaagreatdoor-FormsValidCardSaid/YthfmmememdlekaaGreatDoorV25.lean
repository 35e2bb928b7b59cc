/- Contracts: the kit's Condition. -/
import Derived.Test.YthfmmememdlekaaGreatDoorV10
import Derived.Test.YthfmmememdlekaaGreatDoorV18
import Derived.Test.YthfmmememdlekaaGreatDoorV06
import Derived.Test.YthfmmememdlekaaGreatDoorV07
import Derived.Deep.CutRange
import Derived.Deep.CutBlock
import Derived.Test.YthfmmememdlekaaGreatDoorV23
import Derived.Test.YthfmmememdlekaaGreatDoorV24
import Derived.Test.YthfmmememdlekaaGreatDoorV11
import Derived.Test.YthfmmememdlekaaGreatDoorV09
set_option linter.unusedVariables false
set_option linter.unusedSimpArgs false
namespace Go.Proofs.YthfmmememdlekaaGreatDoor
open Go.RowKit Num

theorem k_grow : ∀ (d : Nat), d ≤ 9 → GrowC d := by
  intro d
  induction d with
  | zero => intro h; exact k_grow_step 0 h (fun d' e => by omega)
  | succ d ih => intro h; exact k_grow_step (d + 1) h (fun d' e _ => by
      have h2 : d = d' := by omega
      subst h2
      exact ih (by omega))
/-- A condition of the kit: its terms lie in new blocks; of the old ones only the dice were changed. -/
def CondE (w : World) (db d : Nat) (e : Ending) (w' : World) : Prop := ∃ A n c L, e = .returned (.agg #[.slice A n c]) ∧ TermsAt w' (fun b => w.heap.size ≤ b ∧ b < w'.heap.size) (.slice A n c) L ∧ L.length ≤ szK d ∧ (∀ t ∈ L, KitT t) ∧ Dc w' db ∧ w.grownBy w' (some db)
def CondE1 (w : World) (db d : Nat) (e : Ending) (w' : World) : Prop := ∃ A n c L, e = .returned (.agg #[.slice A n c]) ∧ TermsAt w' (fun b => w.heap.size ≤ b ∧ b < w'.heap.size) (.slice A n c) L ∧ L.length ≤ szK d ∧ (∀ t ∈ L, KitT t) ∧ Dc w' db ∧ w.grownBy w' (some db) ∧ 1 ≤ L.length
set_option maxRecDepth 100000 in
set_option maxHeartbeats 400000 in
theorem k_Condition1 (db d : Nat) (w : World) (hd : Dc w db) (h4 : d ≤ 5) : Calls Tryz.prog 9 #[.pointer (some ⟨db, 0, none⟩), .int .i64 (d : Int)] w (CondE1 w db d) := by
  have hlt := hd.lt
  have hsz : szK d ≤ 1000 := by
    have : d = 0 ∨ d = 1 ∨ d = 2 ∨ d = 3 ∨ d = 4 ∨ d = 5 := by omega
    rcases this with rfl | rfl | rfl | rfl | rfl | rfl <;> decide
  have HD := Lib.hid hd
  have HSZ := Lib.hid hsz
  clear hd hsz
  go_enter Tryz.func9, Tryz.ntmps9
  go_wp2_with fail
  have hb0 : Blk ((w.alloc (.cells #[.slice none 0 0] 25)).alloc (.cells #[.slice none 0 0] 25)) w.heap.size 25 #[.slice none 0 0] := (Blk.new w _ _).alloc _
  have hb1 : Blk ((w.alloc (.cells #[.slice none 0 0] 25)).alloc (.cells #[.slice none 0 0] 25)) (w.heap.size + 1) 25 #[.slice none 0 0] := by
    have := Blk.new (w.alloc (.cells #[.slice none 0 0] 25)) 25 #[.slice none 0 0]
    rwa [World.size_alloc] at this
  have HB0 := Lib.hid hb0
  have hbw : Below w.heap.size w ((w.alloc (.cells #[.slice none 0 0] 25)).alloc (.cells #[.slice none 0 0] 25)) := ((Below.refl _ _).alloc (Nat.le_refl _) _).alloc (by simp) _
  have HBW := Lib.hid hbw
  refine (k_grow d (by omega) _ db (w.heap.size + 1) w.heap.size (.slice none 0 0) [] (fun _ => undef) ((HD.out.alloc _).alloc _) hlt (by omega) hb1 (OwnTs.nil _ _ _) (fun t ht => by cases ht) (by have := HSZ.out; simp; omega)).mono ?_
  rintro e w1 ⟨rfl, v, L, us, hK, hl⟩
  obtain ⟨A, c, rfl⟩ := own_slice hK.own.row
  have hz0 := hK.chg.blk HB0.out (fun e => by rcases e with e | e | e <;> first | omega | cases e)
  have c1 := (hK.blk.cell 0).trans (show _ = some (Value.slice A L.length c) from rfl)
  have c0 := (hz0.cell 0).trans (show _ = some (Value.slice none 0 0) from rfl)
  have f0 := hz0.frozen 0
  have hT := hK.own.terms
  have hs1 := hK.chg.size
  simp only [World.size_alloc] at hs1
  have hn1 : ∀ g, (Value.slice A L.length c).ownBlock = some g → g ≠ w.heap.size := own_not hK.own.row hz0 (by decide)
  have HKK := Lib.hid hK
  have HL := Lib.hid hl
  clear hb0 hb1 hbw hK hz0 hl hT
  go_wp2_with fail
  refine bodyPost_ret (v := .agg #[.slice A L.length c]) ?_ rfl ?_
  · have e1 : (w1.setCell ⟨w.heap.size, 0, none⟩ (.slice A L.length c)).cell? ⟨w.heap.size, 0, none⟩ = some (.slice A L.length c) := World.cell?_setCell_same w1 ⟨w.heap.size, 0, none⟩ _ c0
    simp [results, Tryz.results9, go_sem, e1]
  · have hK := HKK.out
    have hchg : Chg w1 (w1.setCell ⟨w.heap.size, 0, none⟩ (.slice A L.length c)) (fun i => i = w.heap.size) := chg_set w1 w.heap.size 0 _
    have hz0 := hK.chg.blk HB0.out (fun e => by rcases e with e | e | e <;> first | omega | cases e)
    have ho := hK.own.chg hchg (fun g hg e => hn1 g hg e) (fun k hk g hg e => own_not (hK.own.args k hk) hz0 (by decide) g hg e)
    refine ⟨_, _, _, L, rfl, ho.terms, by simpa using HL.out, hK.kit, hK.dc.keep (fun q hq => Below.heap_setCell _ _ _ q (by show q ≠ w.heap.size; omega)), ?_⟩
    refine ⟨?_, hK.len⟩
    refine ⟨hchg.os.trans (hK.chg.os.trans HBW.out.os), hchg.tape.trans (hK.chg.tape.trans HBW.out.tape), hchg.output.trans (hK.chg.output.trans HBW.out.output), by have := hchg.size; omega, fun i hi hne => ?_⟩
    have e1 : i ≠ db := fun e => hne (by rw [e])
    exact (hchg.block i (by omega) (by omega)).trans ((hK.chg.block i (by simp; omega) (fun e => by rcases e with e | e | e <;> first | exact e1 e | omega | cases e)).trans (HBW.out.block i hi))
theorem k_Condition (db d : Nat) (w : World) (hd : Dc w db) (h4 : d ≤ 5) : Calls Tryz.prog 9 #[.pointer (some ⟨db, 0, none⟩), .int .i64 (d : Int)] w (CondE w db d) :=
  (k_Condition1 db d w hd h4).mono fun e w' h => by
    obtain ⟨A, n, c, L, h1, h2, h3, h4, h5, h6, _⟩ := h
    exact ⟨A, n, c, L, h1, h2, h3, h4, h5, h6⟩
end Go.Proofs.YthfmmememdlekaaGreatDoor
namespace Go.Proofs.YthfmmememdlekaaGreatDoor
open Go.RowKit Num

def SameE (La Lb : List Trm) (w : World) (e : Ending) (w' : World) : Prop := ∃ b : Bool, e = .returned (.bool b) ∧ (b = true ↔ La = Lb) ∧ Below w.heap.size w w'
theorem trms_eq {La Lb : List Trm} (hl : La.length = Lb.length) (h : ∀ q, q < La.length → trmAt La q = trmAt Lb q) : La = Lb := by
  apply List.ext_getElem hl
  intro i h1 h2
  have := h i h1
  unfold trmAt at this
  rwa [List.getD_eq_getElem?_getD, List.getD_eq_getElem?_getD, List.getElem?_eq_getElem h1, List.getElem?_eq_getElem h2] at this
theorem ints_eq {xs ys : List Int} (hl : xs.length = ys.length) (h : ∀ q, q < xs.length → xs.getD q 0 = ys.getD q 0) : xs = ys := by
  apply List.ext_getElem hl
  intro i h1 h2
  have := h i h1
  rwa [List.getD_eq_getElem?_getD, List.getD_eq_getElem?_getD, List.getElem?_eq_getElem h1, List.getElem?_eq_getElem h2] at this
theorem trmAt_mem {L : List Trm} {k : Nat} (h : k < L.length) : trmAt L k ∈ L := by
  unfold trmAt; rw [List.getD_eq_getElem?_getD, List.getElem?_eq_getElem h]; exact List.getElem_mem h
set_option maxRecDepth 100000 in
set_option maxHeartbeats 4000000 in
theorem r_SameC (va vb : Value) (La Lb : List Trm) (w : World) (ha : TermsAt w (· < w.heap.size) va La) (hb : TermsAt w (· < w.heap.size) vb Lb) (hla : La.length ≤ 1000000) (hlb : Lb.length ≤ 1000000)
    (hka : ∀ t ∈ La, t.args.length ≤ 1000000) (hkb : ∀ t ∈ Lb, t.args.length ≤ 1000000) :
    Calls Tryz.prog 116 #[.agg #[va], .agg #[vb]] w (SameE La Lb w) := by
  obtain ⟨A, n, c, rfl, hn, hnc, hA⟩ := ha
  obtain ⟨B, m, k, rfl, hm, hmk, hB⟩ := hb
  have n1 : n ≤ 1000000 := by omega
  have m1 : m ≤ 1000000 := by omega
  have hb0 : Below w.heap.size w ((w.alloc (.cells #[.slice A n c] 25)).alloc (.cells #[.slice B m k] 25)) := ((Below.refl _ _).alloc (Nat.le_refl _) _).alloc (by simp) _
  have HB0 := Lib.hid hb0
  have HN := Lib.hid hn
  have HM := Lib.hid hm
  have HA := Lib.hid hA
  have HB := Lib.hid hB
  have HKA := Lib.hid hka
  have HKB := Lib.hid hkb
  clear hb0 hn hm hA hB hka hkb hla hlb
  by_cases hnm : n = m
  · have t0 : ((n : Int) != (m : Int)) = false := by simp; omega
    have HNM := Lib.hid hnm
    clear hnm
    have hbA : Blk ((w.alloc (.cells #[.slice A n c] 25)).alloc (.cells #[.slice B m k] 25)) w.heap.size 25 #[.slice A n c] := (Blk.new w _ _).alloc _
    have hbB : Blk ((w.alloc (.cells #[.slice A n c] 25)).alloc (.cells #[.slice B m k] 25)) (w.heap.size + 1) 25 #[.slice B m k] := by
      have := Blk.new (w.alloc (.cells #[.slice A n c] 25)) 25 #[.slice B m k]
      rwa [World.size_alloc] at this
    have HBB := Lib.hid hbB
    clear hbA hbB
    go_enter Tryz.func116, Tryz.ntmps116
    go_wp2_with fail
    generalize hw0 : (w.alloc (.cells #[.slice A n c] 25)).alloc (.cells #[.slice B m k] 25) = w0 at *
    have hs0 : w0.heap.size = w.heap.size + 2 := by rw [← hw0]; simp
    have HS0 := Lib.hid hs0
    clear hw0 hs0
    go_loopw [5, 6, 7, 8, 9, 20] (fun v5 v6 v7 v8 v9 v20 wr => ∃ i : Nat, i ≤ n ∧ v20 = .int .i64 (i : Int) ∧ (∀ q, q < i → trmAt La q = trmAt Lb q) ∧ Below (w.heap.size + 2) w0 wr) (fun _ _ _ _ _ v20 _ => n - (intOf v20).toNat)
    case atStart => exact ⟨0, by omega, rfl, (fun q hq => absurd hq (by omega)), Below.refl _ _⟩
    case round =>
      obtain ⟨i, hi, rfl, hq, hbl⟩ := hrel
      rename World => wo
      have HQ := Lib.hid hq
      have HBL := Lib.hid hbl
      have hbw : Below w.heap.size w wo := HB0.out.trans (hbl.mono (by omega))
      have hso := hbl.size
      have hso2 : w.heap.size + 2 ≤ wo.heap.size := by have := HS0.out; omega
      have cB := ((HBB.out.below' hbl (by omega)).cell 0).trans (show _ = some (Value.slice B m k) from rfl)
      have HBW := Lib.hid hbw
      clear hq hbl hso hbw
      by_cases hlt : i < n
      · obtain ⟨b, off, rfl, hbb, hc⟩ := HA.out (by omega)
        obtain ⟨b', off', rfl, hbb', hc'⟩ := HB.out (by have := HNM.out; omega)
        have hta := (hc i hlt).keep (S := (· < w.heap.size)) (HBW.out.block b hbb) (fun g hg => HBW.out.block g hg)
        have htb := (hc' i (by have := HNM.out; omega)).keep (S := (· < w.heap.size)) (HBW.out.block b' hbb') (fun g hg => HBW.out.block g hg)
        have hla : (trmAt La i).args.length ≤ 1000000 := HKA.out _ (trmAt_mem (by have := HN.out; omega))
        have hlb : (trmAt Lb i).args.length ≤ 1000000 := HKB.out _ (trmAt_mem (by have := HNM.out; have := HM.out; omega))
        obtain ⟨ta, hta'⟩ : ∃ ta, trmAt La i = ta := ⟨_, rfl⟩
        obtain ⟨tb, htb'⟩ : ∃ tb, trmAt Lb i = tb := ⟨_, rfl⟩
        rw [hta'] at hta hla
        rw [htb'] at htb hlb
        obtain ⟨k1, n1', y1, f1, x1, a1⟩ := ta
        obtain ⟨k2, n2', y2, f2, x2, a2⟩ := tb
        obtain ⟨c0, c1, c2, c3, c4, u, c5, hu⟩ := hta
        obtain ⟨d0, d1, d2, d3, d4, u', d5, hu'⟩ := htb
        dsimp only at c0 c1 c2 c3 c4 d0 d1 d2 d3 d4 hu hu' hla hlb
        obtain ⟨A1, q1, e1, rfl, hq1, hqe1, hA1⟩ := hu
        obtain ⟨A2, q2, e2, rfl, hq2, hqe2, hA2⟩ := hu'
        have zi : (i : Int) < (n : Int) := by omega
        have zj : (i : Int) < (m : Int) := by have := HNM.out; omega
        have hbl' : b' < wo.heap.size := by omega
        have D0 : ∀ o : Obj, (wo.alloc o).cell? ⟨b', off' + i * 6, none⟩ = some (.int .i64 k2) := fun o => (World.cell?_alloc_lt wo o ⟨b', off' + i * 6, none⟩ hbl').trans d0
        have D1 : ∀ o : Obj, (wo.alloc o).cell? ⟨b', off' + i * 6 + 1, none⟩ = some (.int .i64 n2') := fun o => (World.cell?_alloc_lt wo o ⟨b', off' + i * 6 + 1, none⟩ hbl').trans d1
        have D2 : ∀ o : Obj, (wo.alloc o).cell? ⟨b', off' + i * 6 + 2, none⟩ = some (.int .i64 y2) := fun o => (World.cell?_alloc_lt wo o ⟨b', off' + i * 6 + 2, none⟩ hbl').trans d2
        have D3 : ∀ o : Obj, (wo.alloc o).cell? ⟨b', off' + i * 6 + 3, none⟩ = some (.string f2) := fun o => (World.cell?_alloc_lt wo o ⟨b', off' + i * 6 + 3, none⟩ hbl').trans d3
        have D4 : ∀ o : Obj, (wo.alloc o).cell? ⟨b', off' + i * 6 + 4, none⟩ = some (.string x2) := fun o => (World.cell?_alloc_lt wo o ⟨b', off' + i * 6 + 4, none⟩ hbl').trans d4
        have D5 : ∀ o : Obj, (wo.alloc o).cell? ⟨b', off' + i * 6 + 5, none⟩ = some (.slice A2 q2 e2) := fun o => (World.cell?_alloc_lt wo o ⟨b', off' + i * 6 + 5, none⟩ hbl').trans d5
        have CB : ∀ o : Obj, (wo.alloc o).cell? ⟨w.heap.size + 1, 0, none⟩ = some (.slice (some ⟨b', off', none⟩) m k) := fun o => (World.cell?_alloc_lt wo o ⟨w.heap.size + 1, 0, none⟩ (by show w.heap.size + 1 < _; omega)).trans cB
        have HTA := Lib.hid hta'
        have HTB := Lib.hid htb'
        have q1m : q1 ≤ 1000000 := by omega
        have q2m : q2 ≤ 1000000 := by omega
        have HQ1 := Lib.hid hq1
        have HQ2 := Lib.hid hq2
        have HA1 := Lib.hid hA1
        have HA2 := Lib.hid hA2
        clear hta' htb' hq1 hq2 hA1 hA2 hc hc' cB d0 d1 d2 d3 d4 d5
        go_upto_region 7 with fail
        have hx1 : Blk ((wo.alloc (.cells #[.int .i64 k1, .int .i64 n1', .int .i64 y1, .string f1, .string x1, .slice A1 q1 e1] 29)).alloc (.cells #[.int .i64 k2, .int .i64 n2', .int .i64 y2, .string f2, .string x2, .slice A2 q2 e2] 29)) wo.heap.size 29 #[.int .i64 k1, .int .i64 n1', .int .i64 y1, .string f1, .string x1, .slice A1 q1 e1] := (Blk.new wo _ _).alloc _
        have hx2 : Blk ((wo.alloc (.cells #[.int .i64 k1, .int .i64 n1', .int .i64 y1, .string f1, .string x1, .slice A1 q1 e1] 29)).alloc (.cells #[.int .i64 k2, .int .i64 n2', .int .i64 y2, .string f2, .string x2, .slice A2 q2 e2] 29)) (wo.heap.size + 1) 29 #[.int .i64 k2, .int .i64 n2', .int .i64 y2, .string f2, .string x2, .slice A2 q2 e2] := by
          have := Blk.new (wo.alloc (.cells #[.int .i64 k1, .int .i64 n1', .int .i64 y1, .string f1, .string x1, .slice A1 q1 e1] 29)) 29 #[.int .i64 k2, .int .i64 n2', .int .i64 y2, .string f2, .string x2, .slice A2 q2 e2]
          rwa [World.size_alloc] at this
        have hbx : Below wo.heap.size wo ((wo.alloc (.cells #[.int .i64 k1, .int .i64 n1', .int .i64 y1, .string f1, .string x1, .slice A1 q1 e1] 29)).alloc (.cells #[.int .i64 k2, .int .i64 n2', .int .i64 y2, .string f2, .string x2, .slice A2 q2 e2] 29)) := ((Below.refl _ _).alloc (Nat.le_refl _) _).alloc (by simp) _
        obtain ⟨wx, hwx⟩ : ∃ wx, (wo.alloc (.cells #[.int .i64 k1, .int .i64 n1', .int .i64 y1, .string f1, .string x1, .slice A1 q1 e1] 29)).alloc (.cells #[.int .i64 k2, .int .i64 n2', .int .i64 y2, .string f2, .string x2, .slice A2 q2 e2] 29) = wx := ⟨_, rfl⟩
        rw [hwx] at hx1 hx2 hbx ⊢
        clear hwx D0 D1 D2 D3 D4 D5 CB c0 c1 c2 c3 c4 c5
        have X0 := (hx1.cell 0).trans (show _ = some (Value.int .i64 k1) from rfl)
        have Y0 := (hx2.cell 0).trans (show _ = some (Value.int .i64 k2) from rfl)
        have X1 := (hx1.cell 1).trans (show _ = some (Value.int .i64 n1') from rfl)
        have Y1 := (hx2.cell 1).trans (show _ = some (Value.int .i64 n2') from rfl)
        have X2 := (hx1.cell 2).trans (show _ = some (Value.int .i64 y1) from rfl)
        have Y2 := (hx2.cell 2).trans (show _ = some (Value.int .i64 y2) from rfl)
        have X3 := (hx1.cell 3).trans (show _ = some (Value.string f1) from rfl)
        have Y3 := (hx2.cell 3).trans (show _ = some (Value.string f2) from rfl)
        have X4 := (hx1.cell 4).trans (show _ = some (Value.string x1) from rfl)
        have Y4 := (hx2.cell 4).trans (show _ = some (Value.string x2) from rfl)
        have X5 := (hx1.cell 5).trans (show _ = some (Value.slice A1 q1 e1) from rfl)
        have Y5 := (hx2.cell 5).trans (show _ = some (Value.slice A2 q2 e2) from rfl)
        have HX := Lib.hid (HBW.out.trans (hbx.mono (by omega)))
        have HX2 := Lib.hid (HBL.out.trans (hbx.mono (by omega)))
        have HXO := Lib.hid hbx
        clear hx1 hx2 hbx
        by_cases e1 : k1 = k2
        · have g1 : (k1 != k2) = false := by simp [e1]
          have He1 := Lib.hid e1
          clear e1
          by_cases e2 : n1' = n2'
          · have g2 : (n1' != n2') = false := by simp [e2]
            have He2 := Lib.hid e2
            clear e2
            by_cases e3 : y1 = y2
            · have g3 : (y1 != y2) = false := by simp [e3]
              have He3 := Lib.hid e3
              clear e3
              by_cases e4 : f1 = f2
              · have g4 : (f1.toList == f2.toList) = true := seq_true e4
                have He4 := Lib.hid e4
                clear e4
                by_cases e5 : x1 = x2
                · have g5 : (x1.toList == x2.toList) = true := seq_true e5
                  have He5 := Lib.hid e5
                  clear e5
                  by_cases e6 : q1 = q2
                  · have g6 : ((q1 : Int) != (q2 : Int)) = false := by simp; omega
                    have He6 := Lib.hid e6
                    clear e6
                    go_wp2_with fail
                    go_loopw [8, 9, 75] (fun v8 v9 v75 wq => ∃ j : Nat, j ≤ q1 ∧ v75 = .int .i64 (j : Int) ∧ (∀ q, q < j → a1.getD q 0 = a2.getD q 0) ∧ wx = wq) (fun _ _ v75 _ => q1 - (intOf v75).toNat)
                    case atStart => exact ⟨0, by omega, rfl, (fun q hq => absurd hq (by omega)), rfl⟩
                    case round =>
                      obtain ⟨j, hj, rfl, hq, rfl⟩ := hrel
                      have HJ := Lib.hid hq
                      clear hq
                      by_cases hjl : j < q1
                      · obtain ⟨p, o, rfl, hp, hcp⟩ := HA1.out (by omega)
                        obtain ⟨p', o', rfl, hp', hcp'⟩ := HA2.out (by have := He6.out; omega)
                        have r0 : wx.cell? ⟨p, o + j, none⟩ = _ := (HXO.out.cell (p := ⟨p, o + j, none⟩) (by have hp2 : p < w.heap.size := hp; show p < _; omega)).trans (hcp j hjl)
                        have r1 : wx.cell? ⟨p', o' + j, none⟩ = _ := (HXO.out.cell (p := ⟨p', o' + j, none⟩) (by have hp2 : p' < w.heap.size := hp'; show p' < _; omega)).trans (hcp' j (by have := He6.out; omega))
                        have s0 : (j : Int) < (q1 : Int) := by omega
                        have s1 : (j : Int) < (q2 : Int) := by have := He6.out; omega
                        obtain ⟨x, hx⟩ : ∃ x, a1.getD j 0 = x := ⟨_, rfl⟩
                        obtain ⟨y, hy⟩ : ∃ y, a2.getD j 0 = y := ⟨_, rfl⟩
                        rw [hx] at r0
                        rw [hy] at r1
                        have HXX := Lib.hid hx
                        have HYY := Lib.hid hy
                        clear hx hy hcp hcp'
                        by_cases hxy : x = y
                        · have t1 : ((y : Int) != x) = false := by simp [hxy]
                          have HXY := Lib.hid hxy
                          clear hxy
                          go_wp2_with fail
                          go_roundw
                          case measure => simp [intOf]; omega
                          case rel => exact ⟨j + 1, by omega, by go_num, (fun q hq => by
                            rcases Nat.lt_or_ge q j with h | h
                            · exact HJ.out q h
                            · have : q = j := by omega
                              subst this; rw [HXX.out, HYY.out]; exact HXY.out), by first | rfl | trivial⟩
                        · have t1 : ((y : Int) != x) = true := by rw [bne_iff_ne]; exact fun h => hxy h.symm
                          go_wp2_with fail
                          go_ret
                          refine ⟨false, rfl, iff_of_false (by simp) (fun e => ?_), HX.out⟩
                          have h9 := (HTA.out.symm.trans (congrArg (fun L => trmAt L i) e)).trans HTB.out
                          injection h9 with j1 j2 j3 j4 j5 j6
                          exact hxy (by rw [← HXX.out, ← HYY.out, j6])
                      · have hjk : j = q1 := by omega
                        have s0 : ¬ (j : Int) < (q1 : Int) := by omega
                        have HJK := Lib.hid hjk
                        clear hjk
                        go_wp2_with fail
                        go_roundw
                        case measure => simp [intOf]; omega
                        case rel =>
                          refine ⟨i + 1, by omega, by go_num, (fun q hq => ?_), HX2.out⟩
                          rcases Nat.lt_or_ge q i with h | h
                          · exact HQ.out q h
                          · have : q = i := by omega
                            subst this
                            rw [HTA.out, HTB.out, He1.out, He2.out, He3.out, He4.out, He5.out, ints_eq (xs := a1) (ys := a2) (by rw [← HQ1.out, ← HQ2.out]; exact He6.out) (fun q hq => HJ.out q (by rw [HJK.out, HQ1.out]; exact hq))]
                  · have g6 : ((q1 : Int) != (q2 : Int)) = true := by rw [bne_iff_ne]; omega
                    go_wp2_with fail
                    go_ret
                    refine ⟨false, rfl, iff_of_false (by simp) (fun e => ?_), HX.out⟩
                    have h9 := (HTA.out.symm.trans (congrArg (fun L => trmAt L i) e)).trans HTB.out
                    injection h9 with j1 j2 j3 j4 j5 j6
                    exact e6 (by rw [HQ1.out, HQ2.out, j6])
                · have g5 : (x1.toList == x2.toList) = false := seq_false (fun h => e5 (blOf_inj h))
                  go_wp2_with fail
                  go_ret
                  refine ⟨false, rfl, iff_of_false (by simp) (fun e => ?_), HX.out⟩
                  have h9 := (HTA.out.symm.trans (congrArg (fun L => trmAt L i) e)).trans HTB.out
                  injection h9 with j1 j2 j3 j4 j5 j6
                  exact e5 j5
              · have g4 : (f1.toList == f2.toList) = false := seq_false (fun h => e4 (blOf_inj h))
                go_wp2_with fail
                go_ret
                refine ⟨false, rfl, iff_of_false (by simp) (fun e => ?_), HX.out⟩
                have h9 := (HTA.out.symm.trans (congrArg (fun L => trmAt L i) e)).trans HTB.out
                injection h9 with j1 j2 j3 j4 j5 j6
                exact e4 j4
            · have g3 : (y1 != y2) = true := by rw [bne_iff_ne]; exact e3
              go_wp2_with fail
              go_ret
              refine ⟨false, rfl, iff_of_false (by simp) (fun e => ?_), HX.out⟩
              have h9 := (HTA.out.symm.trans (congrArg (fun L => trmAt L i) e)).trans HTB.out
              injection h9 with j1 j2 j3 j4 j5 j6
              exact e3 j3
          · have g2 : (n1' != n2') = true := by rw [bne_iff_ne]; exact e2
            go_wp2_with fail
            go_ret
            refine ⟨false, rfl, iff_of_false (by simp) (fun e => ?_), HX.out⟩
            have h9 := (HTA.out.symm.trans (congrArg (fun L => trmAt L i) e)).trans HTB.out
            injection h9 with j1 j2 j3 j4 j5 j6
            exact e2 j2
        · have g1 : (k1 != k2) = true := by rw [bne_iff_ne]; exact e1
          go_wp2_with fail
          go_ret
          refine ⟨false, rfl, iff_of_false (by simp) (fun e => ?_), HX.out⟩
          have h9 := (HTA.out.symm.trans (congrArg (fun L => trmAt L i) e)).trans HTB.out
          injection h9 with j1 j2 j3 j4 j5 j6
          exact e1 j1
      · have hin : i = n := by omega
        have s0 : ¬ (i : Int) < (n : Int) := by omega
        have HIN := Lib.hid hin
        clear hin
        go_wp2_with fail
        go_ret
        exact ⟨true, rfl, iff_of_true rfl (trms_eq (by rw [← HN.out, ← HM.out]; exact HNM.out) (fun q hq => HQ.out q (by rw [HIN.out, HN.out]; exact hq))), HBW.out⟩
  · have t0 : ((n : Int) != (m : Int)) = true := by rw [bne_iff_ne]; omega
    go_enter Tryz.func116, Tryz.ntmps116
    go_wp2_with fail
    go_ret
    exact ⟨false, rfl, iff_of_false (by simp) (fun e => hnm (by rw [HN.out, HM.out, e])), HB0.out⟩
end Go.Proofs.YthfmmememdlekaaGreatDoor
namespace Go.Proofs.YthfmmememdlekaaGreatDoor
open Go.RowKit Num

/-! ### Spaces about the signs -/
def wid1 (c : UInt8) : List UInt8 := if signB c then [32, c, 10] else [c]
def widB (l : List UInt8) : List UInt8 := (l.map wid1).flatten
theorem widB_nil : widB [] = [] := rfl
theorem widB_app (a b : List UInt8) : widB (a ++ b) = widB a ++ widB b := by simp [widB]
theorem widB_id {a : List UInt8} (h : ∀ c ∈ a, signB c = false) : widB a = a := by
  induction a with
  | nil => rfl
  | cons c a ih =>
    have h1 : wid1 c = [c] := by unfold wid1; rw [h c (by simp)]; rfl
    have h2 := ih fun d hd => h d (by simp [hd])
    unfold widB at h2 ⊢
    rw [List.map_cons, List.flatten_cons, h1, h2]; rfl
theorem widB_in {a : List UInt8} (h : ∀ c ∈ a, inWB c = true) : widB a = a := widB_id fun c hc => (in_not_sign (h c hc)).1
theorem widB_len (l : List UInt8) : (widB l).length ≤ 3 * l.length := by
  induction l with
  | nil => exact Nat.le_refl _
  | cons c l ih =>
    have h1 : (wid1 c).length ≤ 3 := by unfold wid1; split <;> simp
    unfold widB at ih ⊢
    simp only [List.map_cons, List.flatten_cons, List.length_append, List.length_cons] at ih ⊢
    omega
theorem widB_tail (L : List (List UInt8)) : widB (Lib.joinTail [44, 32] L) = Lib.joinTail [32, 44, 10, 32] (L.map widB) := by
  induction L with
  | nil => rfl
  | cons x L ih =>
    unfold Lib.joinTail at ih ⊢
    simp only [List.map_cons, List.flatten_cons]
    rw [widB_app, widB_app, ih]
    rfl
theorem widB_join (L : List (List UInt8)) : widB (joinS [44, 32] L) = joinS [32, 44, 10, 32] (L.map widB) := by
  cases L with
  | nil => rfl
  | cons x L =>
    show widB (x ++ Lib.joinTail [44, 32] L) = widB x ++ Lib.joinTail [32, 44, 10, 32] (L.map widB)
    rw [widB_app, widB_tail]
/-! ### Terms with short fields and texts without signs -/
def AllT (P : Trm → Prop) : Nat → Tree → Prop
  | 0, _ => True
  | d + 1, .node t xs => P t ∧ ∀ x ∈ xs, AllT P d x
theorem grow_all {P : Trm → Prop} {l : List Trm} (hl : ∀ t ∈ l, P t) : ∀ d {at_ T n}, growF l d at_ = some (T, n) → AllT P d T := by
  intro d
  induction d with
  | zero => intro at_ T n h; simp [growF] at h
  | succ d ih =>
    intro at_ T n h
    unfold growF at h
    split at h
    · cases h
    · rename_i t ht
      split at h
      · split at h
        · cases h
        · rename_i xs n' ha
          injection h with h; injection h with h1 h2; subst h1
          exact ⟨hl t (List.mem_of_getElem? ht), growA_good (fun _ _ _ h => ih h) ha⟩
      · cases h
theorem wid_text : ∀ d {T : Tree}, GoodT d T → AllT KitT d T → widB (txT d T) = textG [32] [10] d T := by
  intro d
  induction d with
  | zero => intro T h; exact h.elim
  | succ d ih =>
    intro T hg ha
    obtain ⟨t, xs⟩ := T
    obtain ⟨hb, hs, hn1, hx⟩ := hg
    obtain ⟨⟨_, _, hf, ht, _⟩, hxa⟩ := ha
    have hk := bare_kind hb
    have hnm := (nm_spec t.kind hk.1 hk.2).2.2
    rw [txT_node, textG_node]
    by_cases c1 : t.kind = 1 ∨ t.kind = 2
    · rw [if_pos c1, if_pos c1]
      rw [widB_app, widB_app, widB_app, widB_in hnm, widB_join, List.map_map]
      have e : xs.map (widB ∘ txT d) = xs.map (textG [32] [10] d) := List.map_congr_left fun x hm => ih (hx x hm) (hxa x hm)
      rw [e]
      rfl
    · rw [if_neg c1, if_neg c1]
      unfold bareB at hb
      by_cases c3 : t.kind = 3 ∨ t.kind = 4
      · rw [if_neg (by omega), if_pos c3] at hb
        simp only [Bool.and_eq_true, decide_eq_true_eq, betwB] at hb
        rw [if_pos c3, widB_app, widB_app, widB_in hnm, widB_in (num_spec t.num (by omega) (by omega)).2.2]
        rfl
      · rw [if_neg c3]
        by_cases c5 : t.kind = 5
        · rw [if_neg (by omega), if_neg c3, if_pos c5] at hb
          simp only [Bool.and_eq_true, decide_eq_true_eq, betwB] at hb
          rw [c5] at hnm
          rw [if_pos c5]
          simp only [widB_app]
          rw [widB_in hnm, widB_in (num_spec t.num (by omega) (by omega)).2.2, widB_in (num_spec t.yrs (by omega) (by omega)).2.2]
          rfl
        · rw [if_neg c5]
          by_cases c7 : t.kind = 7
          · rw [if_neg (by omega), if_neg c3, if_neg c5, if_pos c7] at hb
            simp only [Bool.and_eq_true, decide_eq_true_eq, betwB] at hb
            rw [c7] at hnm
            rw [if_pos c7]
            simp only [widB_app]
            rw [widB_in hnm, widB_in (num_spec t.num (by omega) (by omega)).2.2, widB_id hf, widB_id ht]
            rfl
          · rw [if_neg c7, widB_in hnm]
/-! ### How long a text is -/
theorem leaf_short (t : Trm) (hb : bareB t = true) (ht : KitT t) (hk : ¬ (t.kind = 1 ∨ t.kind = 2)) (d : Nat) (xs : List Tree) : (txT (d + 1) (.node t xs)).length ≤ 32 := by
  have hk8 := bare_kind hb
  have hn := nm_len t.kind hk8.1 hk8.2
  have hf : (blOf t.field).length ≤ 4 := by rw [blOf_len]; exact ht.1
  have htx : (blOf t.text).length ≤ 5 := by rw [blOf_len]; exact ht.2.1
  rw [txT_node, if_neg hk]
  unfold bareB at hb
  by_cases c3 : t.kind = 3 ∨ t.kind = 4
  · rw [if_neg (by omega), if_pos c3] at hb
    simp only [Bool.and_eq_true, decide_eq_true_eq, betwB] at hb
    have := itoa_small t.num (by omega) (by omega)
    rw [if_pos c3]; simp only [List.length_append, List.length_cons, List.length_nil]; omega
  · rw [if_neg c3]
    by_cases c5 : t.kind = 5
    · rw [if_neg (by omega), if_neg c3, if_pos c5] at hb
      simp only [Bool.and_eq_true, decide_eq_true_eq, betwB] at hb
      have h1 := itoa_small t.num (by omega) (by omega)
      have h2 := itoa_small t.yrs (by omega) (by omega)
      rw [c5] at hn
      rw [if_pos c5]; simp only [List.length_append, List.length_cons, List.length_nil, ofB]; omega
    · rw [if_neg c5]
      by_cases c7 : t.kind = 7
      · rw [if_neg (by omega), if_neg c3, if_neg c5, if_pos c7] at hb
        simp only [Bool.and_eq_true, decide_eq_true_eq, betwB] at hb
        have h1 := itoa_small t.num (by omega) (by omega)
        rw [c7] at hn
        rw [if_pos c7]; simp only [List.length_append, List.length_cons, List.length_nil, ofB]; omega
      · rw [if_neg c7]; omega
theorem growA_short {l : List Trm} {d : Nat} (hd : ∀ {at_ T n}, growF l d at_ = some (T, n) → (txT d T).length + 2 ≤ 34 * (n - at_) ∧ at_ ≤ n) :
    ∀ {ks nx xs n}, growA (growF l d) ks nx = some (xs, n) → (Lib.joinTail [44, 32] (xs.map (txT d))).length ≤ 34 * (n - nx) ∧ nx ≤ n := by
  intro ks
  induction ks with
  | nil => intro nx xs n h; simp [growA] at h; obtain ⟨rfl, rfl⟩ := h; simp [Lib.joinTail]
  | cons k ks ih =>
    intro nx xs n h
    unfold growA at h
    split at h
    · split at h
      · cases h
      · rename_i x af hx
        split at h
        · cases h
        · rename_i xs' n' ha
          injection h with h; injection h with h1 h2; subst h1; subst h2
          obtain ⟨e1, e2⟩ := hd hx
          obtain ⟨f1, f2⟩ := ih ha
          simp only [Lib.joinTail, List.map_cons, List.flatten_cons, List.length_append, List.length_cons, List.length_nil] at f1 ⊢
          omega
    · cases h
theorem grow_short {l : List Trm} (hl : ∀ t ∈ l, KitT t) : ∀ d {at_ T n}, growF l d at_ = some (T, n) → (txT d T).length + 2 ≤ 34 * (n - at_) ∧ at_ ≤ n := by
  intro d
  induction d with
  | zero => intro at_ T n h; simp [growF] at h
  | succ d ih =>
    intro at_ T n h
    unfold growF at h
    split at h
    · cases h
    · rename_i t ht
      split at h
      · rename_i hb
        rw [Bool.and_eq_true] at hb
        split at h
        · cases h
        · rename_i xs n' ha
          injection h with h; injection h with h1 h2; subst h1; subst h2
          obtain ⟨f1, f2⟩ := growA_short ih ha
          refine ⟨?_, by omega⟩
          by_cases hk : t.kind = 1 ∨ t.kind = 2
          · have hk8 := bare_kind hb.1
            have hn := nm_len t.kind hk8.1 hk8.2
            have hj := joinS_tail [44, 32] (xs.map (txT d))
            rw [txT_node, if_pos hk]
            simp only [List.length_append, List.length_cons, List.length_nil]
            omega
          · have := leaf_short t hb.1 (hl t (List.mem_of_getElem? ht)) hk d xs
            omega
      · cases h
/-! ### What is read back -/
theorem nm_ge (k : Int) (h1 : 1 ≤ k) (h2 : k ≤ 8) : 3 ≤ (nmK k).length ∧ (k ≠ 1 → k ≠ 2 → 5 ≤ (nmK k).length ∨ k = 7) := by
  have : ∀ j : Fin 9, 1 ≤ j.val → 3 ≤ (nmK (j.val : Int)).length ∧ (j.val ≠ 1 → j.val ≠ 2 → 5 ≤ (nmK (j.val : Int)).length ∨ j.val = 7) := by decide
  obtain ⟨m, rfl⟩ := Int.eq_ofNat_of_zero_le (show 0 ≤ k by omega)
  obtain ⟨a, b⟩ := this ⟨m, by omega⟩ (by show 1 ≤ m; omega)
  refine ⟨a, fun h3 h4 => ?_⟩
  rcases b (by show m ≠ 1; omega) (by show m ≠ 2; omega) with c | c
  · exact .inl c
  · exact .inr (by have c' : m = 7 := c; omega)
theorem text_ge {pre post : List UInt8} {d : Nat} {T : Tree} (h : GoodT d T) : 5 ≤ (textG pre post d T).length := by
  cases d with
  | zero => exact h.elim
  | succ d =>
    obtain ⟨t, xs⟩ := T
    obtain ⟨hb, _⟩ := h
    have hk := bare_kind hb
    obtain ⟨g1, g2⟩ := nm_ge t.kind hk.1 hk.2
    rw [textG_node]
    split
    · simp only [List.length_append, List.length_cons, List.length_nil]; omega
    · split
      · simp only [List.length_append, List.length_cons, List.length_nil]; omega
      · split
        · simp only [List.length_append, List.length_cons, List.length_nil, ofB]; omega
        · split
          · simp only [List.length_append, List.length_cons, List.length_nil, ofB]; omega
          · rcases g2 (by omega) (by omega) with g | g
            · exact g
            · omega
theorem parseC_tree {s : List UInt8} {L : List Trm} {T : Tree} (h : rootF L = some T) (h1 : s.length ≤ 4096) (h5 : 5 ≤ s.length) (hp : parseF s = .inl (eraseF 6 T)) : parseC s = (L, 0, 0) := by
  obtain ⟨hg, hL⟩ := root_some h
  have hgood := grow_good 6 hg
  have hfl : flatT (s.length + 1) 0 (eraseF 6 T) = L := by
    rw [← erase_mono 6 (s.length + 1) hgood (by omega), flat_mono 6 (s.length + 1) hgood (by omega), (flat_grow 6 hg).1]
    simp
  unfold parseC
  rw [if_neg (by omega), hp]
  simp only [hfl]
  rw [if_pos (by unfold rightB; rw [h]; rfl)]
theorem back_len {L : List Trm} {T : Tree} (h : rootF L = some T) (hk : ∀ t ∈ L, KitT t) : (txT 6 T).length ≤ 820 := by
  obtain ⟨hg, hL⟩ := root_some h
  have := (grow_short hk 6 hg).1
  omega
theorem back_same {L : List Trm} {T : Tree} (h : rootF L = some T) (hk : ∀ t ∈ L, KitT t) : parseC (txT 6 T) = (L, 0, 0) := by
  have hl := back_len h hk
  have hgood := grow_good 6 (root_some h).1
  refine parseC_tree h (by omega) (text_ge hgood) ?_
  have := parse_text (pre := []) (post := []) (fun c hc => by cases hc) (fun c hc => by cases hc) hgood [] (fun c hc => by cases hc)
  rwa [List.nil_append] at this
theorem back_wide {L : List Trm} {T : Tree} (h : rootF L = some T) (hk : ∀ t ∈ L, KitT t) : parseC (32 :: widB (txT 6 T)) = (L, 0, 0) := by
  have hl := back_len h hk
  have hw := widB_len (txT 6 T)
  have hg := (root_some h).1
  have hgood := grow_good 6 hg
  have hge := text_ge (pre := [32]) (post := [10]) hgood
  have e := wid_text 6 hgood (grow_all hk 6 hg)
  refine parseC_tree h (by simp only [List.length_cons]; omega) (by rw [e]; simp only [List.length_cons]; omega) ?_
  rw [e]
  exact parse_text (pre := [32]) (post := [10]) (by decide) (by decide) hgood [32] (by decide)
theorem back_inj {La Lb : List Trm} {Ta Tb : Tree} (ha : rootF La = some Ta) (hka : ∀ t ∈ La, KitT t) (hb : rootF Lb = some Tb) (hkb : ∀ t ∈ Lb, KitT t) : txT 6 Ta = txT 6 Tb ↔ La = Lb := by
  constructor
  · intro e
    have h1 := back_same ha hka
    rw [e, back_same hb hkb] at h1
    injection h1 with h1 _
    exact h1.symm
  · rintro rfl
    rw [ha] at hb; injection hb with hb; rw [hb]
end Go.Proofs.YthfmmememdlekaaGreatDoor
