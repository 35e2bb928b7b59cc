/- Contracts: the statement FormsDeep. -/
import Derived.Test.YthfmmememdlekaaDoorFmDp
set_option linter.unusedVariables false
set_option linter.unusedSimpArgs false
namespace Go.Proofs.YthfmmememdlekaaDoor
open Go.RowKit Num

theorem deep_at (n : Nat) (h : n < 10) : (parseC (blOf (deepS n))).2.2 = if n < 6 then 0 else 14 := by
  have e := congrArg (fun l => l[n]?) deep_plain
  simp only [List.getElem?_map, List.getElem?_range h, Option.map_some] at e
  rw [deepS_bl]
  match n, h with
  | 0, _ | 1, _ | 2, _ | 3, _ | 4, _ | 5, _ | 6, _ | 7, _ | 8, _ | 9, _ => injection e
theorem many_at (k : Nat) (h : k < 28) : (parseC (blOf (manyS (k + 1) ++ dpC))).2.2 = if k + 2 < 24 then 0 else 14 := by
  have e := congrArg (fun l => l[k]?) many_plain
  simp only [List.getElem?_map, List.getElem?_range h, Option.map_some] at e
  rw [bl_app, manyS_bl]
  match k, h with
  | 0, _ | 1, _ | 2, _ | 3, _ | 4, _ | 5, _ | 6, _ | 7, _ | 8, _ | 9, _ | 10, _ | 11, _ | 12, _ | 13, _ | 14, _ | 15, _ | 16, _ | 17, _ | 18, _ | 19, _ | 20, _ | 21, _ | 22, _ | 23, _ | 24, _ | 25, _ | 26, _ | 27, _ => injection e
def ErrEnd (q : Int) (w : World) (e : Ending) (w' : World) : Prop := ∃ A n c p, e = .returned (.tuple #[.agg #[.slice A n c], .int .i64 p, .int .i64 q]) ∧ Below w.heap.size w w'
theorem f_Parse_err (s : ByteArray) (q : Int) (w : World) (hl : LibOk w) (h : s.size ≤ 1000) (hq : (parseC (blOf s)).2.2 = q) : Calls Tryd.prog 8 #[.string s] w (ErrEnd q w) := by
  have h2 := f_Parse s w (by omega) hl
  rw [hq] at h2
  refine h2.mono ?_
  rintro e w1 ⟨v, rfl, ⟨A, n, c, rfl, -⟩, hb⟩
  exact ⟨A, n, c, _, rfl, hb⟩
set_option maxRecDepth 100000 in
set_option maxHeartbeats 400000 in
theorem f_deep (d t : Nat) (w : World) (hd : d < 256) (ht : t < 256) (hl : LibOk w) : Calls Tryd.prog 3 #[.int .u8 (d : Int), .int .u8 (t : Int)] w (AwkEnd w) := by
  obtain ⟨n, hn⟩ : ∃ n : Nat, d % 10 = n := ⟨_, rfl⟩
  obtain ⟨k, hk⟩ : ∃ k : Nat, t % 28 = k := ⟨_, rfl⟩
  have n10 : n < 10 := by omega
  have k28 : k < 28 := by omega
  have e1 : (d : Int) % 10 = (n : Int) := by omega
  have e2 : (t : Int) % 28 = (k : Int) := by omega
  have HL := Lib.hid hl
  clear hl hd ht hn hk
  go_enter Tryd.func3, Tryd.ntmps3
  go_wp2_with fail
  go_loopw [6, 19] (fun v6 v19 wr => ∃ i : Nat, i ≤ n ∧ v6 = .string (deepS i) ∧ v19 = .int .i64 (i : Int) ∧ wr = w) (fun _ v19 _ => n - (intOf v19).toNat)
  case atStart => exact ⟨0, by omega, rfl, rfl, rfl⟩
  case round =>
    obtain ⟨i, hi, rfl, rfl, rfl⟩ := hrel
    have hsz := deepS_size i
    have hs2 : (deepS i).size ≤ 200 := by omega
    clear hsz
    by_cases hlt : i < n
    · go_wp2_with fail
      go_roundw
      case measure => simp [intOf]; omega
      case rel => exact ⟨i + 1, by omega, rfl, by go_num, by first | rfl | trivial⟩
    · have hin : i = n := by omega
      subst hin
      have hj0 : ¬ (i : Int) < (i : Int) := by omega
      go_wp2_with fail
      have hsi : (deepS i).size ≤ 1000 := by omega
      clear hj0 hi hlt
      go_loopw [8, 31] (fun v8 v31 wq => ∃ j : Nat, j ≤ k + 1 ∧ v8 = .string (manyS j) ∧ v31 = .int .i64 (j : Int) ∧ wq = wr) (fun _ v31 _ => (k + 1) - (intOf v31).toNat)
      case atStart => exact ⟨0, by omega, rfl, rfl, rfl⟩
      case round =>
        rename World => wo
        obtain ⟨j, hj, rfl, rfl, hw⟩ := hrel
        have hmz := manyS_size j
        have hm2 : (manyS j).size ≤ 400 := by omega
        clear hmz
        by_cases hlt : j < k + 1
        · have z1 : (j : Int) < 2 + (k : Int) - 1 := by omega
          go_wp2_with fail
          go_roundw
          case measure => simp [intOf]; omega
          case rel => exact ⟨j + 1, by omega, rfl, by go_num, by first | rfl | exact hw | trivial⟩
        · have hjk : j = k + 1 := by omega
          have z1 : ¬ (j : Int) < 2 + (k : Int) - 1 := by omega
          go_wp2_with fail
          subst hjk
          have hma : (manyS (k + 1) ++ dpC).size ≤ 1000 := by rw [ByteArray.size_append, show dpC.size = 1 from rfl]; omega
          have hq1 := deep_at i n10
          have hq2 := many_at k k28
          obtain ⟨q1, hq⟩ : ∃ q : Int, (if i < 6 then (0 : Int) else 14) = q := ⟨_, rfl⟩
          obtain ⟨q2, hp⟩ : ∃ q : Int, (if k + 2 < 24 then (0 : Int) else 14) = q := ⟨_, rfl⟩
          rw [hq] at hq1
          rw [hp] at hq2
          have HP1 := Lib.hid hq1
          have HP2 := Lib.hid hq2
          have HQ := Lib.hid hq
          have HP := Lib.hid hp
          have HMA := Lib.hid hma
          clear hq1 hq2 hq hp hma
          refine (f_Parse_err (deepS i) q1 _ HL.out hsi HP1.out).mono ?_
          rintro e w1 ⟨A1, n1, c1, p1, rfl, hb1⟩
          have HB1 := Lib.hid hb1
          have hs1 := hb1.size
          have HL1 := Lib.hid (HL.out.later (hb1.trans ((Below.refl _ _).alloc hs1 (.cells #[.slice A1 n1 c1] 24))))
          clear hb1
          go_wp2_with fail
          refine (f_Parse_err (manyS (k + 1) ++ dpC) q2 _ HL1.out HMA.out HP2.out).mono ?_
          rintro e w2 ⟨A2, n2, c2, p2, rfl, hb2⟩
          have hs2' := hb2.size
          have HB2 := Lib.hid (HB1.out.trans (((Below.refl w1.heap.size w1).alloc (Nat.le_refl _) (.cells #[.slice A1 n1 c1] 24)).trans (hb2.mono (by simp))|>.mono hs1))
          clear hb2
          have hs3 := HB2.out.size
          have HL2 := Lib.hid (HL.out.later (HB2.out.trans ((Below.refl _ _).alloc hs3 (.cells #[.slice A2 n2 c2] 24))))
          have hcase : (i < 6 ∧ q1 = 0) ∨ (¬ i < 6 ∧ q1 = 14) := by
            have h := HQ.out
            by_cases h6 : i < 6
            · rw [if_pos h6] at h; exact .inl ⟨h6, h.symm⟩
            · rw [if_neg h6] at h; exact .inr ⟨h6, h.symm⟩
          have hcase2 : (k + 2 < 24 ∧ q2 = 0) ∨ (¬ k + 2 < 24 ∧ q2 = 14) := by
            have h := HP.out
            by_cases h6 : k + 2 < 24
            · rw [if_pos h6] at h; exact .inl ⟨h6, h.symm⟩
            · rw [if_neg h6] at h; exact .inr ⟨h6, h.symm⟩
          clear HQ HP HP1 HP2
          rcases hcase with ⟨h6, rfl⟩ | ⟨h6, rfl⟩
          all_goals
            rcases hcase2 with ⟨h24, rfl⟩ | ⟨h24, rfl⟩
          all_goals
            have y1 : decide ((i : Int) < 6) = decide (i < 6) := by congr 1; exact propext (by omega)
            have y2 : decide (2 + (k : Int) < 24) = decide (k + 2 < 24) := by congr 1; exact propext (by omega)
            simp only [h6, h24, decide_true, decide_false] at y1 y2
            go_wp2_with fail
            refine (f_awake _ HL2.out).mono ?_
            rintro e w3 ⟨rfl, hb4⟩
            have HB4 := Lib.hid ((HB2.out.trans ((Below.refl _ _).alloc hs3 (.cells #[.slice A2 n2 c2] 24))).trans (hb4.mono (by simp; omega)))
            clear hb4
            go_wp2_with fail
            go_ret
            exact ⟨rfl, HB4.out⟩
end Go.Proofs.YthfmmememdlekaaDoor
