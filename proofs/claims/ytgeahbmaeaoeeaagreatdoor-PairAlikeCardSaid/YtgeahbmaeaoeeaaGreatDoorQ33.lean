/- Contracts: statement.Same's comparison of terms, and slices.EqualFunc with it. Contract: statement.Same. -/
import Derived.Test.YtgeahbmaeaoeeaaGreatDoorQ32
set_option linter.unusedVariables false
set_option linter.unusedSimpArgs false
namespace Go.Proofs.YtgeahbmaeaoeeaaGreatDoor
open Go.RowKit Num

theorem trm_ne {k1 n1 y1 k2 n2 y2 : Int} {f1 x1 f2 x2 : ByteArray} {a1 a2 : List Int} (h : (k1 == k2) = false ∨ (n1 == n2) = false ∨ (y1 == y2) = false ∨ (f1.toList == f2.toList) = false ∨ (x1.toList == x2.toList) = false) : (⟨k1, n1, y1, f1, x1, a1⟩ : Trm) ≠ ⟨k2, n2, y2, f2, x2, a2⟩ := by
  intro e
  injection e with e0 e1 e2 e3 e4 e5
  subst e0 e1 e2 e3 e4
  simp at h
abbrev trmV (t : Trm) (v : Value) : Value := .agg #[.int .i64 t.kind, .int .i64 t.num, .int .i64 t.yrs, .string t.field, .string t.text, v]
set_option maxRecDepth 100000 in
set_option maxHeartbeats 2000000 in
theorem t_Same (k1 n1 y1 k2 n2 y2 : Int) (f1 x1 f2 x2 : ByteArray) (a1 a2 : List Int) (A B : Option Addr) (p c q d : Nat) (w : World) (ha : IntsAt w (· < w.heap.size) (.slice A p c) a1) (hb : IntsAt w (· < w.heap.size) (.slice B q d) a2) (hla : a1.length ≤ 1000000) (hlb : a2.length ≤ 1000000) :
    Calls Tryz.prog 58 #[.agg #[.int .i64 k1, .int .i64 n1, .int .i64 y1, .string f1, .string x1, .slice A p c], .agg #[.int .i64 k2, .int .i64 n2, .int .i64 y2, .string f2, .string x2, .slice B q d]] w (SameB ((⟨k1, n1, y1, f1, x1, a1⟩ : Trm) = ⟨k2, n2, y2, f2, x2, a2⟩) w) := by
  have hb0 : Below w.heap.size w ((w.alloc (.cells #[.int .i64 k1, .int .i64 n1, .int .i64 y1, .string f1, .string x1, .slice A p c] 115)).alloc (.cells #[.int .i64 k2, .int .i64 n2, .int .i64 y2, .string f2, .string x2, .slice B q d] 115)) := ((Below.refl _ w).alloc (Nat.le_refl _) _).alloc (by simp) _
  have hsz := hb0.size
  have heq := q_EqI (.slice A p c) (.slice B q d) a1 a2 _ ((ha.keep fun g hg => hb0.block g hg).mono fun g hg => Nat.lt_of_lt_of_le hg hsz) ((hb.keep fun g hg => hb0.block g hg).mono fun g hg => Nat.lt_of_lt_of_le hg hsz) hla hlb
  have HEQ := Lib.hid heq
  have HB := Lib.hid hb0
  clear heq hb0 ha hb hsz
  have hno := fun (h : (k1 == k2) = false ∨ (n1 == n2) = false ∨ (y1 == y2) = false ∨ (f1.toList == f2.toList) = false ∨ (x1.toList == x2.toList) = false) => (show SameB ((⟨k1, n1, y1, f1, x1, a1⟩ : Trm) = ⟨k2, n2, y2, f2, x2, a2⟩) w (.returned (.bool false)) _ from ⟨false, rfl, ⟨fun h => (by cases h), fun e => absurd e (trm_ne h)⟩, HB.out⟩)
  have HNO := Lib.hid hno
  clear hno
  go_enter Tryz.func58, Tryz.ntmps58
  cases h0 : (k1 == k2)
  · go_wp2_with fail
    go_ret
    exact HNO.out (.inl h0)
  · cases h1 : (n1 == n2)
    · go_wp2_with fail
      go_ret
      exact HNO.out (.inr (.inl h1))
    · cases h2 : (y1 == y2)
      · go_wp2_with fail
        go_ret
        exact HNO.out (.inr (.inr (.inl h2)))
      · cases h3 : (f1.toList == f2.toList)
        · go_wp2_with fail
          go_ret
          exact HNO.out (.inr (.inr (.inr (.inl h3))))
        · cases h4 : (x1.toList == x2.toList)
          · go_wp2_with fail
            go_ret
            exact HNO.out (.inr (.inr (.inr (.inr h4))))
          · go_wp2_with fail
            refine HEQ.out.mono ?_
            rintro e w1 ⟨b, rfl, hbb, hB1⟩
            have HBB := Lib.hid hbb
            have HB1 := Lib.hid (HB.out.trans (hB1.mono HB.out.size))
            clear hbb hB1
            go_wp2_with fail
            go_ret
            refine ⟨b, rfl, ⟨fun h => ?_, fun e => HBB.out.2 (by injection e)⟩, HB1.out⟩
            rw [eq_of_beq h0, eq_of_beq h1, eq_of_beq h2, bytes_of h3, bytes_of h4, HBB.out.1 h]
set_option maxRecDepth 100000 in
set_option maxHeartbeats 4000000 in
theorem q_EqT (va vb : Value) (La Lb : List Trm) (w : World) (ha : TermsAt w (· < w.heap.size) va La) (hb : TermsAt w (· < w.heap.size) vb Lb) (hla : La.length ≤ 1000000) (hlb : Lb.length ≤ 1000000)
    (hka : ∀ t ∈ La, t.args.length ≤ 1000000) (hkb : ∀ t ∈ Lb, t.args.length ≤ 1000000) :
    Calls Tryz.prog 61 #[va, vb, .func (.func 58) #[] #[]] w (SameB (La = Lb) w) := by
  obtain ⟨A, n, c, rfl, hn, hnc, hA⟩ := ha
  obtain ⟨B, m, k, rfl, hm, hmk, hB⟩ := hb
  have n1 : n ≤ 1000000 := by omega
  have m1 : m ≤ 1000000 := by omega
  have HA := Lib.hid hA
  have HB := Lib.hid hB
  have HN := Lib.hid hn
  have HM := Lib.hid hm
  have HKA := Lib.hid hka
  have HKB := Lib.hid hkb
  clear hA hB hn hm hla hlb hka hkb
  by_cases hnm : n = m
  · subst hnm
    go_enter Tryz.func61, Tryz.ntmps61
    go_wp2_with fail
    go_loopw [7, 8, 9, 17] (fun v7 v8 v9 v17 wr => ∃ i : Nat, i ≤ n ∧ v17 = .int .i64 (i : Int) ∧ (∀ q, q < i → trmAt La q = trmAt Lb q) ∧ Below w.heap.size w wr) (fun _ _ _ v17 _ => n - (intOf v17).toNat)
    case atStart => exact ⟨0, by omega, rfl, fun q hq => absurd hq (Nat.not_lt_zero _), Below.refl _ _⟩
    case round =>
      obtain ⟨i, hi, rfl, heq, hbr⟩ := hrel
      rename World => wr
      have HE := Lib.hid heq
      have HBR := Lib.hid hbr
      have hsz := hbr.size
      clear heq hbr
      by_cases hlt : i < n
      · obtain ⟨b1, o1, rfl, hS1, hc1⟩ := HA.out (by omega)
        obtain ⟨b2, o2, rfl, hS2, hc2⟩ := HB.out (by omega)
        have hta := (hc1 i hlt).keep (S := (· < w.heap.size)) (HBR.out.block b1 hS1) (fun g hg => HBR.out.block g hg)
        have htb := (hc2 i hlt).keep (S := (· < w.heap.size)) (HBR.out.block b2 hS2) (fun g hg => HBR.out.block g hg)
        have hla : (trmAt La i).args.length ≤ 1000000 := HKA.out _ (trmAt_mem (by have := HN.out; omega))
        have hlb : (trmAt Lb i).args.length ≤ 1000000 := HKB.out _ (trmAt_mem (by have := HM.out; omega))
        obtain ⟨ta, hta'⟩ : ∃ ta, trmAt La i = ta := ⟨_, rfl⟩
        obtain ⟨tb, htb'⟩ : ∃ tb, trmAt Lb i = tb := ⟨_, rfl⟩
        rw [hta'] at hta hla
        rw [htb'] at htb hlb
        obtain ⟨k1, n1', y1, f1, x1, a1⟩ := ta
        obtain ⟨k2, n2', y2, f2, x2, a2⟩ := tb
        obtain ⟨c0, c1, c2, c3, c4, u, c5, hu⟩ := hta
        obtain ⟨d0, d1, d2, d3, d4, u', d5, hu'⟩ := htb
        dsimp only at c0 c1 c2 c3 c4 d0 d1 d2 d3 d4 hu hu' hla hlb
        obtain ⟨A1, q1, e1, hv1, -⟩ := id hu
        obtain ⟨A2, q2, e2, hv2, -⟩ := id hu'
        subst hv1 hv2
        have zi : (i : Int) < (n : Int) := by omega
        have z0 : (0 : Int) ≤ (i : Int) := by omega
        have hbl' : b2 < wr.heap.size := by omega
        have D0 : ∀ o : Obj, (wr.alloc o).cell? ⟨b2, o2 + i * 6, none⟩ = some (.int .i64 k2) := fun o => (World.cell?_alloc_lt wr o ⟨b2, o2 + i * 6, none⟩ hbl').trans d0
        have D1 : ∀ o : Obj, (wr.alloc o).cell? ⟨b2, o2 + i * 6 + 1, none⟩ = some (.int .i64 n2') := fun o => (World.cell?_alloc_lt wr o ⟨b2, o2 + i * 6 + 1, none⟩ hbl').trans d1
        have D2 : ∀ o : Obj, (wr.alloc o).cell? ⟨b2, o2 + i * 6 + 2, none⟩ = some (.int .i64 y2) := fun o => (World.cell?_alloc_lt wr o ⟨b2, o2 + i * 6 + 2, none⟩ hbl').trans d2
        have D3 : ∀ o : Obj, (wr.alloc o).cell? ⟨b2, o2 + i * 6 + 3, none⟩ = some (.string f2) := fun o => (World.cell?_alloc_lt wr o ⟨b2, o2 + i * 6 + 3, none⟩ hbl').trans d3
        have D4 : ∀ o : Obj, (wr.alloc o).cell? ⟨b2, o2 + i * 6 + 4, none⟩ = some (.string x2) := fun o => (World.cell?_alloc_lt wr o ⟨b2, o2 + i * 6 + 4, none⟩ hbl').trans d4
        have D5 : ∀ o : Obj, (wr.alloc o).cell? ⟨b2, o2 + i * 6 + 5, none⟩ = some (.slice A2 q2 e2) := fun o => (World.cell?_alloc_lt wr o ⟨b2, o2 + i * 6 + 5, none⟩ hbl').trans d5
        have HTA := Lib.hid hta'
        have HTB := Lib.hid htb'
        have hbx : Below wr.heap.size wr ((wr.alloc (.cells #[.int .i64 k1, .int .i64 n1', .int .i64 y1, .string f1, .string x1, .slice A1 q1 e1] 115)).alloc (.cells #[.int .i64 k2, .int .i64 n2', .int .i64 y2, .string f2, .string x2, .slice A2 q2 e2] 115)) := ((Below.refl _ _).alloc (Nat.le_refl _) _).alloc (by simp) _
        have hsx := hbx.size
        have hcl := t_Same k1 n1' y1 k2 n2' y2 f1 x1 f2 x2 a1 a2 A1 A2 q1 e1 q2 e2 _ ((hu.keep fun g hg => hbx.block g (by omega)).mono fun g hg => by omega) ((hu'.keep fun g hg => hbx.block g (by omega)).mono fun g hg => by omega) hla hlb
        have HCL := Lib.hid hcl
        have HX := Lib.hid (HBR.out.trans (hbx.mono hsz))
        clear hta' htb' hc1 hc2 d0 d1 d2 d3 d4 d5 hbx hcl hu hu' hsx
        go_wp2_with fail
        refine HCL.out.mono ?_
        rintro e w5 ⟨b, rfl, hbb, hB5⟩
        have HB5 := Lib.hid (HX.out.trans (hB5.mono HX.out.size))
        have HBB := Lib.hid hbb
        clear hbb hB5 HCL HX D0 D1 D2 D3 D4 D5 c0 c1 c2 c3 c4 c5
        cases b with
        | false =>
          go_wp2_with fail
          go_ret
          refine ⟨false, rfl, ⟨fun h => (by cases h), fun e => ?_⟩, HB5.out⟩
          subst e
          have h2 := HTA.out.symm.trans HTB.out
          exact absurd (HBB.out.2 h2) (by simp)
        | true =>
          go_wp2_with fail
          go_roundw
          case measure => simp [intOf]; omega
          case rel => exact ⟨i + 1, by omega, by go_num, (fun q hq => by
            by_cases e : q = i
            · subst e
              rw [HTA.out, HTB.out]; exact HBB.out.1 (by simp)
            · exact HE.out q (by omega)), HB5.out⟩
      · have zi : ¬ (i : Int) < (n : Int) := by omega
        have he : La = Lb := trms_eq (by have := HN.out; have := HM.out; omega) (fun q hq => HE.out q (by have := HN.out; omega))
        have HEQ := Lib.hid he
        clear he
        go_wp2_with fail
        go_ret
        exact ⟨true, rfl, ⟨fun _ => HEQ.out, fun _ => rfl⟩, HBR.out⟩
  · have hne : ((n : Int) == (m : Int)) = false := by simp; omega
    have hne2 : ((n : Int) != (m : Int)) = true := by simp; omega
    have he : La ≠ Lb := fun e => hnm (by rw [HN.out, HM.out, e])
    have HEQ := Lib.hid he
    clear he
    go_enter Tryz.func61, Tryz.ntmps61
    go_wp2_with fail
    go_ret
    exact ⟨false, rfl, ⟨fun h => (by cases h), fun e => absurd e HEQ.out⟩, Below.refl _ _⟩
end Go.Proofs.YtgeahbmaeaoeeaaGreatDoor
namespace Go.Proofs.YtgeahbmaeaoeeaaGreatDoor
open Go.RowKit Num

theorem stm_ne {s t : Stm} (h : (s.resp.toList == t.resp.toList) = false ∨ (s.dep == t.dep) = false ∨ (s.day == t.day) = false) : s ≠ t := by
  intro e
  subst e
  simp at h
set_option maxRecDepth 100000 in
set_option maxHeartbeats 4000000 in
theorem s_Same (s t : Stm) (va vc vs ua uc us : Value) (w : World) (ha : StmAt w (· < w.heap.size) va vc vs s) (hb : StmAt w (· < w.heap.size) ua uc us t) (hs : StmOk s) (ht : StmOk t) (has : ∀ x ∈ s.cond, x.args.length ≤ 1000000) (hat : ∀ x ∈ t.cond, x.args.length ≤ 1000000) :
    Calls Tryz.prog 38 #[.agg #[.string s.resp, .int .i64 s.dep, .int .i64 s.day, va, vc, vs], .agg #[.string t.resp, .int .i64 t.dep, .int .i64 t.day, ua, uc, us]] w (SameB (s = t) w) := by
  obtain ⟨Aa, na, ca, hva, -⟩ := id ha.aa
  obtain ⟨Ac, nc, cc, hvc, -⟩ := id ha.cc
  obtain ⟨As, ns, cs, hvs, -⟩ := id ha.ss
  obtain ⟨Ba, ma, da, hua, -⟩ := id hb.aa
  obtain ⟨Bc, mc, dc, huc, -⟩ := id hb.cc
  obtain ⟨Bs, ms, ds, hus, -⟩ := id hb.ss
  subst hva hvc hvs hua huc hus
  have hb0 : Below w.heap.size w ((w.alloc (.cells #[.string s.resp, .int .i64 s.dep, .int .i64 s.day, .slice Aa na ca, .slice Ac nc cc, .slice As ns cs] 61)).alloc (.cells #[.string t.resp, .int .i64 t.dep, .int .i64 t.day, .slice Ba ma da, .slice Bc mc dc, .slice Bs ms ds] 61)) := ((Below.refl _ w).alloc (Nat.le_refl _) _).alloc (by simp) _
  have hx1 : Blk ((w.alloc (.cells #[.string s.resp, .int .i64 s.dep, .int .i64 s.day, .slice Aa na ca, .slice Ac nc cc, .slice As ns cs] 61)).alloc (.cells #[.string t.resp, .int .i64 t.dep, .int .i64 t.day, .slice Ba ma da, .slice Bc mc dc, .slice Bs ms ds] 61)) w.heap.size 61 #[.string s.resp, .int .i64 s.dep, .int .i64 s.day, .slice Aa na ca, .slice Ac nc cc, .slice As ns cs] := (Blk.new w _ _).alloc _
  have hx2 : Blk ((w.alloc (.cells #[.string s.resp, .int .i64 s.dep, .int .i64 s.day, .slice Aa na ca, .slice Ac nc cc, .slice As ns cs] 61)).alloc (.cells #[.string t.resp, .int .i64 t.dep, .int .i64 t.day, .slice Ba ma da, .slice Bc mc dc, .slice Bs ms ds] 61)) (w.heap.size + 1) 61 #[.string t.resp, .int .i64 t.dep, .int .i64 t.day, .slice Ba ma da, .slice Bc mc dc, .slice Bs ms ds] := by
    have := Blk.new (w.alloc (.cells #[.string s.resp, .int .i64 s.dep, .int .i64 s.day, .slice Aa na ca, .slice Ac nc cc, .slice As ns cs] 61)) 61 #[.string t.resp, .int .i64 t.dep, .int .i64 t.day, .slice Ba ma da, .slice Bc mc dc, .slice Bs ms ds]
    rwa [World.size_alloc] at this
  have hk := fun (W : World) (hB : Below w.heap.size w W) => And.intro ((ha.keep fun g hg => hB.block g hg).mono (T := (· < W.heap.size)) fun g hg => Nat.lt_of_lt_of_le hg hB.size) ((hb.keep fun g hg => hB.block g hg).mono (T := (· < W.heap.size)) fun g hg => Nat.lt_of_lt_of_le hg hB.size)
  have h1 := fun (W : World) (hB : Below w.heap.size w W) => q_EqA _ _ _ _ W (hk W hB).1.aa (hk W hB).2.aa hs.an ht.an
  have h2 := fun (W : World) (hB : Below w.heap.size w W) => q_EqT _ _ _ _ W (hk W hB).1.cc (hk W hB).2.cc hs.cn ht.cn has hat
  have h3 := fun (W : World) (hB : Below w.heap.size w W) => q_EqS _ _ _ _ W (hk W hB).1.ss (hk W hB).2.ss hs.sn ht.sn
  have HB := Lib.hid hb0
  have H1 := Lib.hid (h1 _ hb0)
  have H2 := Lib.hid h2
  have H3 := Lib.hid h3
  have HX1 := Lib.hid hx1
  have HX2 := Lib.hid hx2
  have hno := fun (h : (s.resp.toList == t.resp.toList) = false ∨ (s.dep == t.dep) = false ∨ (s.day == t.day) = false) => (show SameB (s = t) w (.returned (.bool false)) _ from ⟨false, rfl, ⟨fun h => (by cases h), fun e => absurd e (stm_ne h)⟩, hb0⟩)
  have HNO := Lib.hid hno
  clear hno hb0 hx1 hx2 hk h1 h2 h3 ha hb hs ht has hat
  go_enter Tryz.func38, Tryz.ntmps38
  cases h0 : (s.resp.toList == t.resp.toList)
  · go_wp2_with fail
    go_ret
    exact HNO.out (.inl h0)
  · cases h1 : (s.dep == t.dep)
    · go_wp2_with fail
      go_ret
      exact HNO.out (.inr (.inl h1))
    · cases h2 : (s.day == t.day)
      · go_wp2_with fail
        go_ret
        exact HNO.out (.inr (.inr h2))
      · have HE := Lib.hid (And.intro h0 (And.intro h1 h2))
        go_wp2_with fail
        refine H1.out.mono ?_
        rintro e w1 ⟨b1, rfl, hb1, hB1⟩
        have HW1 := Lib.hid (HB.out.trans (hB1.mono HB.out.size))
        have HB1 := Lib.hid hb1
        have hx1 := HX1.out.below' hB1 HX1.out.lt
        have hx2 := HX2.out.below' hB1 HX2.out.lt
        have X4 := (hx1.cell 4).trans (show _ = some (Value.slice Ac nc cc) from rfl)
        have Y4 := (hx2.cell 4).trans (show _ = some (Value.slice Bc mc dc) from rfl)
        have K1 := Lib.hid hx1
        have K2 := Lib.hid hx2
        clear hb1 hB1 hx1 hx2 H1 HX1 HX2
        cases b1 with
        | false =>
          go_wp2_with fail
          go_ret
          exact ⟨false, rfl, ⟨fun h => (by cases h), fun e => absurd (HB1.out.2 (by rw [e])) (by simp)⟩, HW1.out⟩
        | true =>
          have ea := Lib.hid (HB1.out.1 (by simp))
          clear HB1
          go_wp2_with fail
          refine (H2.out _ HW1.out).mono ?_
          rintro e w2 ⟨b2, rfl, hb2, hB2⟩
          have HW2 := Lib.hid (HW1.out.trans (hB2.mono HW1.out.size))
          have HB2 := Lib.hid hb2
          have hx1 := K1.out.below' hB2 K1.out.lt
          have hx2 := K2.out.below' hB2 K2.out.lt
          have X5 := (hx1.cell 5).trans (show _ = some (Value.slice As ns cs) from rfl)
          have Y5 := (hx2.cell 5).trans (show _ = some (Value.slice Bs ms ds) from rfl)
          clear hb2 hB2 hx1 hx2 K1 K2 H2 X4 Y4
          cases b2 with
          | false =>
            go_wp2_with fail
            go_ret
            exact ⟨false, rfl, ⟨fun h => (by cases h), fun e => absurd (HB2.out.2 (by rw [e])) (by simp)⟩, HW2.out⟩
          | true =>
            have ec := Lib.hid (HB2.out.1 (by simp))
            clear HB2
            go_wp2_with fail
            refine (H3.out _ HW2.out).mono ?_
            rintro e w3 ⟨b3, rfl, hb3, hB3⟩
            have HW3 := Lib.hid (HW2.out.trans (hB3.mono HW2.out.size))
            have HB3 := Lib.hid hb3
            clear hb3 hB3 H3 X5 Y5
            go_wp2_with fail
            go_ret
            exact ⟨b3, rfl, ⟨fun h => stm_eq (bytes_of HE.out.1).symm (eq_of_beq HE.out.2.1) (eq_of_beq HE.out.2.2) ea.out ec.out (HB3.out.1 h), fun e => HB3.out.2 (by rw [e])⟩, HW3.out⟩
end Go.Proofs.YtgeahbmaeaoeeaaGreatDoor
