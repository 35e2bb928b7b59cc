/- Contracts: whether shares are those of a coalition, with so many values each. -/
import Derived.Test.YtgeahbmaeaoeeaaGreatDoorVwMem
import Derived.Test.YtgeahbmaeaoeeaaGreatDoorCoElm
import Derived.Test.YtgeahbmaeaoeeaaGreatDoorCoShr
set_option linter.unusedVariables false
set_option linter.unusedSimpArgs false
namespace Go.Proofs.YtgeahbmaeaoeeaaGreatDoor
open Go.RowKit Num

/-- A share is a holder's, with so many values. -/
def StandO (p : Nat) (vals h : Int) (s : Sh) : Prop := s.1 = h ∧ (s.2.length : Int) = vals ∧ InF p s.2
def BoolIff (P : Prop) (w : World) (e : Ending) (w' : World) : Prop := (∃ b : Bool, e = .returned (.bool b) ∧ (b = true ↔ P)) ∧ Below w.heap.size w w'
theorem BoolIff.no {P : Prop} {w w' : World} (h : ¬ P) (hb : Below w.heap.size w w') : BoolIff P w (.returned (.bool false)) w' := ⟨⟨false, rfl, ⟨fun h0 => (by cases h0), fun h1 => absurd h1 h⟩⟩, hb⟩
theorem BoolIff.yes {P : Prop} {w w' : World} (h : P) (hb : Below w.heap.size w w') : BoolIff P w (.returned (.bool true)) w' := ⟨⟨true, rfl, ⟨fun _ => h, fun _ => rfl⟩⟩, hb⟩
set_option maxRecDepth 100000 in
set_option maxHeartbeats 1000000 in
theorem v_stand1 (p : Nat) (need hold vals hN : Int) (x1 : Int) (xs : List Int) (u : Value) (vb pb : Nat) (w : World) (hw : BasesOk w) (hp : Prm p) (h2 : p ≤ 1073741824) (hu : IntsAt w (· < w.heap.size) u xs) (hl : xs.length ≤ 1000000)
    (hvb : Blk w vb 3 #[.int .i64 vals]) (hpb : Blk w pb 29 #[.int .i64 (p : Int), .int .i64 need, .int .i64 hold]) :
    Calls Tryz.prog 117 #[.agg #[.int .i64 x1, u], .int .i64 hN, .pointer (some ⟨vb, 0, none⟩), .pointer (some ⟨pb, 0, none⟩)] w (BoolIff (StandO p vals hN (x1, xs)) w) := by
  obtain ⟨A, n, c, rfl, hn, -⟩ := id hu
  have hb0 : Below w.heap.size w (w.alloc (.cells #[.int .i64 x1, .slice A n c] 36)) := (Below.refl _ w).alloc (Nat.le_refl _) _
  have cv : (w.alloc (.cells #[.int .i64 x1, .slice A n c] 36)).cell? ⟨vb, 0, none⟩ = some (.int .i64 vals) := ((hvb.alloc _).cell 0).trans rfl
  have cp : (w.alloc (.cells #[.int .i64 x1, .slice A n c] 36)).cell? ⟨pb, 0, none⟩ = some (.int .i64 (p : Int)) := ((hpb.alloc _).cell 0).trans rfl
  have hel := c_Elements (p : Int) true (.slice A n c) xs _ _ (hu.up hb0) hl (f_Valid p _ (hw.alloc _) hp h2)
  have HEL := Lib.hid hel
  have HB := Lib.hid hb0
  have HN := Lib.hid hn
  clear hel hb0 hu hn hvb hpb
  by_cases h1 : x1 = hN
  · have H1 := Lib.hid h1
    have t1 : (x1 == hN) = true := by simpa using h1
    clear h1
    by_cases h3 : (n : Int) = vals
    · have H3 := Lib.hid h3
      have t3 : ((n : Int) == vals) = true := by simpa using h3
      clear h3
      go_enter Tryz.func117, Tryz.ntmps117
      go_wp2_with fail
      refine HEL.out.mono ?_
      rintro e w' ⟨b, rfl, hb, rfl⟩
      have HBB := Lib.hid hb
      clear hb
      go_wp2_with fail
      go_ret
      refine ⟨⟨b, by cases b <;> rfl, ⟨fun h => ⟨H1.out, by show (xs.length : Int) = vals; rw [← HN.out]; exact H3.out, (HBB.out.1 h).1⟩, fun h => HBB.out.2 ⟨h.2.2, trivial⟩⟩⟩, HB.out⟩
    · have H3 := Lib.hid h3
      have t3 : ((n : Int) == vals) = false := by simpa using h3
      clear h3
      go_enter Tryz.func117, Tryz.ntmps117
      go_wp2_with fail
      go_ret
      exact BoolIff.no (fun h => H3.out (by rw [HN.out]; exact h.2.1)) HB.out
  · have H1 := Lib.hid h1
    have t1 : (x1 == hN) = false := by simpa using h1
    clear h1
    go_enter Tryz.func117, Tryz.ntmps117
    go_wp2_with fail
    go_ret
    exact BoolIff.no (fun h => H1.out h.1) HB.out
/-- Shares are those of a coalition. -/
def StandP (p : Nat) (vals : Int) (L : List Sh) (H : List Int) : Prop := L.length = H.length ∧ ∀ i, i < L.length → StandO p vals (H.getD i 0) (shAt L i)
set_option maxRecDepth 100000 in
set_option maxHeartbeats 2000000 in
theorem v_EqStand (p : Nat) (need hold vals : Int) (v uh : Value) (L : List Sh) (H : List Int) (vb pb : Nat) (w : World) (hw : BasesOk w) (hp : Prm p) (h2 : p ≤ 1073741824) (hv : ShAt w (· < w.heap.size) v L) (hh : IntsAt w (· < w.heap.size) uh H) (hl : L.length ≤ 1000000) (hlh : H.length ≤ 1000000) (hll : ∀ k, k < L.length → (shAt L k).2.length ≤ 1000000)
    (hvb : Blk w vb 3 #[.int .i64 vals]) (hpb : Blk w pb 29 #[.int .i64 (p : Int), .int .i64 need, .int .i64 hold]) :
    Calls Tryz.prog 116 #[v, uh, .func (.func 117) #[] #[.pointer (some ⟨vb, 0, none⟩), .pointer (some ⟨pb, 0, none⟩)]] w (BoolIff (StandP p vals L H) w) := by
  obtain ⟨A, n, c, rfl, hn, hnc, hA⟩ := id hv
  obtain ⟨B, m, k, rfl, hm, hmk, hB⟩ := id hh
  have n1 : n ≤ 1000000 := by omega
  have m1 : m ≤ 1000000 := by omega
  have HV := Lib.hid hv
  have HA := Lib.hid hA
  have HB := Lib.hid hB
  have HN := Lib.hid hn
  have HM := Lib.hid hm
  have HLL := Lib.hid hll
  have HW := Lib.hid hw
  have HVB := Lib.hid hvb
  have HPB := Lib.hid hpb
  have s1 := hvb.lt
  have s2 := hpb.lt
  clear hA hB hn hm hl hlh hv hh hll hw hvb hpb
  by_cases hnm : n = m
  · subst hnm
    go_enter Tryz.func116, Tryz.ntmps116
    go_wp2_with fail
    go_loopw [7, 8, 9, 17] (fun v7 v8 v9 v17 wr => ∃ i : Nat, i ≤ n ∧ v17 = .int .i64 (i : Int) ∧ (∀ q, q < i → StandO p vals (H.getD q 0) (shAt L q)) ∧ Below w.heap.size w wr) (fun _ _ _ v17 _ => n - (intOf v17).toNat)
    case atStart => exact ⟨0, by omega, rfl, fun q hq => absurd hq (Nat.not_lt_zero _), Below.refl _ _⟩
    case round =>
      obtain ⟨i, hi, rfl, heq, hbr⟩ := hrel
      rename World => wr
      have HE := Lib.hid heq
      have HBR := Lib.hid hbr
      have hsz := hbr.size
      clear heq hbr
      by_cases hlt : i < n
      · obtain ⟨b1, o1, rfl, hS1, hc1⟩ := HA.out (by omega)
        obtain ⟨b2, o2, rfl, hS2, hc2⟩ := HB.out (by omega)
        obtain ⟨u, c0, c1, hu⟩ := hc1 i hlt
        have d0 := hc2 i hlt
        have c0 := (HBR.out.cell (p := ⟨b1, o1 + i * 2, none⟩) hS1).trans c0
        have c1 := (HBR.out.cell (p := ⟨b1, o1 + i * 2 + 1, none⟩) hS1).trans c1
        have d0 := (HBR.out.cell (p := ⟨b2, o2 + i, none⟩) hS2).trans d0
        have hla : (shAt L i).2.length ≤ 1000000 := HLL.out _ (by have := HN.out; omega)
        have hur := hu.up HBR.out
        obtain ⟨x1, hx1⟩ : ∃ x, (shAt L i).1 = x := ⟨_, rfl⟩
        obtain ⟨xs, hxs⟩ : ∃ x, (shAt L i).2 = x := ⟨_, rfl⟩
        obtain ⟨hN, hhN⟩ : ∃ x, H.getD i 0 = x := ⟨_, rfl⟩
        rw [hx1] at c0
        rw [hxs] at hla hur
        rw [hhN] at d0
        obtain ⟨A1, q1, e1, rfl, -⟩ := id hur
        have zi : (i : Int) < (n : Int) := by omega
        have z0 : (0 : Int) ≤ (i : Int) := by omega
        have hbx : Below wr.heap.size wr (wr.alloc (.cells #[.int .i64 x1, .slice A1 q1 e1] 36)) := (Below.refl _ _).alloc (Nat.le_refl _) _
        have D0 : ∀ o : Obj, (wr.alloc o).cell? ⟨b2, o2 + i, none⟩ = some (.int .i64 hN) := fun o => (World.cell?_alloc_lt wr o ⟨b2, o2 + i, none⟩ (by show b2 < _; omega)).trans d0
        have hcl := v_stand1 p need hold vals hN x1 xs (.slice A1 q1 e1) vb pb _ (HW.out.below (HBR.out.trans (hbx.mono hsz))) hp h2 (hur.up hbx) hla ((HVB.out.below HBR.out s1).alloc _) ((HPB.out.below HBR.out s2).alloc _)
        have HCL := Lib.hid hcl
        have HX := Lib.hid (HBR.out.trans (hbx.mono hsz))
        have HX1 := Lib.hid hx1
        have HXS := Lib.hid hxs
        have HHN := Lib.hid hhN
        clear hcl hbx hc1 hc2 hu hur hx1 hxs hhN
        go_wp2_with fail
        refine HCL.out.mono ?_
        rintro e w5 ⟨⟨b, rfl, hbb⟩, hB5⟩
        have HB5 := Lib.hid (HX.out.trans (hB5.mono HX.out.size))
        have HBB := Lib.hid hbb
        clear hbb hB5 HCL HX D0 c0 c1 d0
        cases b with
        | false =>
          go_wp2_with fail
          go_ret
          refine BoolIff.no (fun h => ?_) HB5.out
          have h2 := h.2 i (by rw [← HN.out]; exact hlt)
          unfold StandO at h2
          rw [HX1.out, HXS.out, HHN.out] at h2
          exact absurd (HBB.out.2 h2) (by simp)
        | true =>
          go_wp2_with fail
          go_roundw
          case measure => simp [intOf]; omega
          case rel => exact ⟨i + 1, by omega, by go_num, (fun q hq => by
            by_cases e : q = i
            · subst e
              unfold StandO
              rw [HX1.out, HXS.out, HHN.out]
              exact HBB.out.1 trivial
            · exact HE.out q (by omega)), HB5.out⟩
      · have zi : ¬ (i : Int) < (n : Int) := by omega
        have he : StandP p vals L H := ⟨by rw [← HN.out, ← HM.out], fun q hq => HE.out q (by have := HN.out; omega)⟩
        have HEQ := Lib.hid he
        clear he
        go_wp2_with fail
        go_ret
        exact BoolIff.yes HEQ.out HBR.out
  · have hne : ((n : Int) == (m : Int)) = false := by simp; omega
    have hne2 : ((n : Int) != (m : Int)) = true := by simp; omega
    have he : ¬ StandP p vals L H := fun h => hnm (by rw [HN.out, HM.out, h.1])
    have HEQ := Lib.hid he
    clear he
    go_enter Tryz.func116, Tryz.ntmps116
    go_wp2_with fail
    go_ret
    exact BoolIff.no HEQ.out (Below.refl _ _)
set_option maxRecDepth 100000 in
set_option maxHeartbeats 1000000 in
theorem v_stand (p : Nat) (need hold vals : Int) (v uh : Value) (L : List Sh) (H : List Int) (w : World) (hw : BasesOk w) (hp : Prm p) (h2 : p ≤ 1073741824) (hv : ShAt w (· < w.heap.size) v L) (hh : IntsAt w (· < w.heap.size) uh H) (hl : L.length ≤ 1000000) (hlh : H.length ≤ 1000000) (hll : ∀ k, k < L.length → (shAt L k).2.length ≤ 1000000) :
    Calls Tryz.prog 98 #[.agg #[.int .i64 (p : Int), .int .i64 need, .int .i64 hold], v, uh, .int .i64 vals] w (BoolIff (StandP p vals L H) w) := by
  have hmf : ∀ (fn : Fn) (first cap : Array Value) (w : World), (Instr.makeFunc fn first cap).run Tryz.prog w = .ok (.func fn first cap) w := fun _ _ _ _ => rfl
  have hb0 : Below w.heap.size w ((w.alloc (.cells #[.int .i64 (p : Int), .int .i64 need, .int .i64 hold] 29)).alloc (.cells #[.int .i64 vals] 3)) := ((Below.refl _ w).alloc (Nat.le_refl _) _).alloc (by simp) _
  have hvb := Blk.new (w.alloc (.cells #[.int .i64 (p : Int), .int .i64 need, .int .i64 hold] 29)) 3 #[.int .i64 vals]
  have hpb := (Blk.new w 29 #[.int .i64 (p : Int), .int .i64 need, .int .i64 hold]).alloc (.cells #[.int .i64 vals] 3)
  rw [World.size_alloc] at hvb
  have hcl := v_EqStand p need hold vals v uh L H (w.heap.size + 1) w.heap.size _ (hw.below hb0) hp h2 (hv.up hb0) (hh.up hb0) hl hlh hll hvb hpb
  have HCL := Lib.hid hcl
  have HB := Lib.hid hb0
  clear hcl hb0 hvb hpb hv hh hll hw
  go_enter Tryz.func98, Tryz.ntmps98
  go_wp2_with fail
  refine HCL.out.mono ?_
  rintro e w5 ⟨⟨b, rfl, hbb⟩, hB5⟩
  have HB5 := Lib.hid (HB.out.trans (hB5.mono HB.out.size))
  have HBB := Lib.hid hbb
  clear hbb hB5 HCL
  go_wp2_with fail
  go_ret
  exact ⟨⟨b, rfl, HBB.out⟩, HB5.out⟩
end Go.Proofs.YtgeahbmaeaoeeaaGreatDoor
