/- The contract of the reference's deal: each share has an array of values of its own. -/
import Derived.Test.YtjfphobfikadlaaGreatDoorW45
set_option linter.unusedVariables false
set_option linter.unusedSimpArgs false
namespace Go.Proofs.YtjfphobfikadlaaGreatDoor
open Go.RowKit Num

/-- Shares that the call made, each of which has an array of values of its own. -/
def OwnShA (w : World) (B : Nat) (v : Value) (L : List Sh) : Prop := ∃ (cells : List Value) (gs cs : Nat → Nat), w.ownsRow B 49 2 v L.length cells ∧
  ∀ k, k < L.length → cells[2 * k]? = some (.int .i64 (shAt L k).1) ∧ cells[2 * k + 1]? = some (.slice (some ⟨gs k, 0, none⟩) (shAt L k).2.length (cs k)) ∧ OwnI w B (.slice (some ⟨gs k, 0, none⟩) (shAt L k).2.length (cs k)) (shAt L k).2 ∧ ∀ j, j < k → gs j < gs k
theorem OwnShA.nil (w : World) (B : Nat) : OwnShA w B (.slice none 0 0) [] := ⟨[], fun _ => 0, fun _ => 0, World.ownsRow_nil _ _ _ _, fun k hk => by simp at hk⟩
theorem OwnShA.snoc {w w' : World} {B g1 cap1 : Nat} {v v' : Value} {L : List Sh} {x : Sh} {cells : List Value} {gs cs : Nat → Nat} (hr : w.ownsRow B 49 2 v L.length cells)
    (hk : ∀ k, k < L.length → cells[2 * k]? = some (.int .i64 (shAt L k).1) ∧ cells[2 * k + 1]? = some (.slice (some ⟨gs k, 0, none⟩) (shAt L k).2.length (cs k)) ∧ OwnI w B (.slice (some ⟨gs k, 0, none⟩) (shAt L k).2.length (cs k)) (shAt L k).2 ∧ ∀ j, j < k → gs j < gs k)
    (hg : w.grownBy w' v.ownBlock) (hr' : w'.ownsRow B 49 2 v' (L.length + 1) (cells ++ [.int .i64 x.1, .slice (some ⟨g1, 0, none⟩) x.2.length cap1]))
    (hx : OwnI w B (.slice (some ⟨g1, 0, none⟩) x.2.length cap1) x.2) (hlt : ∀ k, k < L.length → gs k < g1) : OwnShA w' B v' (L ++ [x]) := by
  have hcl : cells.length = 2 * L.length := by have := hr.1; omega
  have key : ∀ {u : Value} {ys : List Int}, OwnI w B u ys → OwnI w' B u ys := fun hu => hu.kept hg (own_ne hu hr (by decide))
  refine ⟨_, fun k => if k = L.length then g1 else gs k, fun k => if k = L.length then cap1 else cs k, by simpa using hr', fun k hk' => ?_⟩
  rcases Nat.lt_or_ge k L.length with h | h
  · obtain ⟨h1, h2, h3, h4⟩ := hk k h
    rw [shAt_snoc_old L x k h]
    refine ⟨by rw [List.getElem?_append_left (by omega)]; exact h1, by dsimp only; rw [List.getElem?_append_left (by omega), if_neg (by omega), if_neg (by omega)]; exact h2, by dsimp only; rw [if_neg (by omega), if_neg (by omega)]; exact key h3, fun j hj => by dsimp only; rw [if_neg (by omega), if_neg (by omega)]; exact h4 j hj⟩
  · have hkl : k = L.length := by simp at hk'; omega
    subst hkl
    rw [shAt_snoc_new L x]
    refine ⟨by rw [List.getElem?_append_right (by omega), show 2 * L.length - cells.length = 0 by omega]; rfl, by dsimp only; rw [List.getElem?_append_right (by omega), show 2 * L.length + 1 - cells.length = 1 by omega, if_pos rfl, if_pos rfl]; rfl, by dsimp only; rw [if_pos rfl, if_pos rfl]; exact key hx, fun j hj => by dsimp only; rw [if_pos rfl, if_neg (by omega)]; exact hlt j hj⟩
def CopyPostA (L : List Sh) (w : World) (e : Ending) (w' : World) : Prop := ∃ v, e = .returned v ∧ OwnShA w' w.heap.size v L ∧ Below w.heap.size w w'
set_option maxRecDepth 100000 in
set_option maxHeartbeats 2000000 in
theorem r_CopyA (v : Value) (L : List Sh) (S : Nat → Prop) (w : World) (hv : ShAt w S v L) (hS : ∀ b, S b → b < w.heap.size) (hl : L.length ≤ 1000) (ho : ∀ k, k < L.length → 0 < (shAt L k).2.length ∧ (shAt L k).2.length ≤ 1000) :
    Calls Tryz.prog 26 #[v] w (CopyPostA L w) := by
  obtain ⟨A, n, c, rfl, hn, hnc, hc⟩ := hv
  obtain ⟨i0, hi, hz0, hz1, hz2⟩ := info_parts infoI
  obtain ⟨j0, hj, hy0, hy1, hy2⟩ := info_parts infoS
  have hn1 : n ≤ 1000 := by omega
  have HN := Lib.hid hn
  have HO := Lib.hid ho
  have HC := Lib.hid hc
  clear hn hl ho hc
  go_enter Tryz.func26, Tryz.ntmps26
  go_wp2_with fail
  go_loopw [3, 8] (fun o t wr => ∃ k : Nat, k ≤ n ∧ t = .int .i64 k ∧ OwnShA wr w.heap.size o (L.take k) ∧ Below w.heap.size w wr) (fun _ t _ => n - (intOf t).toNat)
  case atStart => exact ⟨0, by omega, rfl, OwnShA.nil _ _, Below.refl _ _⟩
  case round =>
    obtain ⟨k, hk, rfl, hown, hbl⟩ := hrel
    have hsz := hbl.size
    have HBL := Lib.hid hbl
    have HOWN := Lib.hid hown
    clear hown hbl
    by_cases hlt : k < n
    · obtain ⟨b, off, rfl, hSb, hcell⟩ := HC.out (by omega)
      obtain ⟨u, c0, c1, hu⟩ := hcell k hlt
      have hkl : k < L.length := by rw [← HN.out]; exact hlt
      obtain ⟨l1, l2⟩ := HO.out k hkl
      obtain ⟨Au, nu, cu, rfl, hnu, hnc2, hcu⟩ := id hu
      have hrd := (hu.reads (B := w.heap.size) (fun b hb => hS b hb)).below HBL.out
      obtain ⟨bu, ou, rfl, hSu, _⟩ := hcu (by omega)
      have hbw := hS b hSb
      have hbu := hS bu hSu
      have d0 := (HBL.out.cell (p := ⟨b, off + k * 2, none⟩) hbw).trans c0
      have d1 := (HBL.out.cell (p := ⟨b, off + k * 2 + 1, none⟩) hbw).trans c1
      have qk : (k : Int) < (n : Int) := by omega
      have hstep := take_snoc_sh L k hkl
      obtain ⟨x, hx⟩ : ∃ x, shAt L k = x := ⟨_, rfl⟩
      rw [hx] at d0 hrd hnu l1 l2 hstep
      obtain ⟨h, xs⟩ := x
      change wr.cell? ⟨b, off + k * 2, none⟩ = some (.int .i64 h) at d0
      change Reads wr w.heap.size 1 _ nu (xs.map (Value.int .i64)) at hrd
      change nu = xs.length at hnu
      change 0 < xs.length at l1
      change xs.length ≤ 1000 at l2
      have htl : (L.take k).length = k := by rw [List.length_take]; omega
      have l3 : 0 < nu := by omega
      have l4 : nu ≤ 1000 := by omega
      obtain ⟨cells, gs, cs, hr, hkk⟩ := HOWN.out
      rw [htl] at hr hkk
      have HST := Lib.hid hstep
      have HRD := Lib.hid hrd
      have HNU := Lib.hid hnu
      have HR := Lib.hid hr
      have HKK := Lib.hid hkk
      have HTL := Lib.hid htl
      clear hcell c0 c1 hx hstep hrd hnu hu hcu hnc2 hr hkk htl l1 l2 hkl
      go_wp2_with fail
      have hblk := Blk.new wr 49 #[.int .i64 h, .slice (some ⟨bu, ou, none⟩) nu cu]
      have hb0 := HBL.out.alloc hsz (.cells #[.int .i64 h, .slice (some ⟨bu, ou, none⟩) nu cu] 49)
      have hr0 := HR.out.alloc (.cells #[.int .i64 h, .slice (some ⟨bu, ou, none⟩) nu cu] 49)
      have hrd0 := HRD.out.alloc hsz (.cells #[.int .i64 h, .slice (some ⟨bu, ou, none⟩) nu cu] 49)
      have hgr0 : wr.grownBy (wr.alloc (.cells #[.int .i64 h, .slice (some ⟨bu, ou, none⟩) nu cu] 49)) none := World.grownBy_alloc wr _ none
      have hs0 : (wr.alloc (.cells #[.int .i64 h, .slice (some ⟨bu, ou, none⟩) nu cu] 49)).heap.size = wr.heap.size + 1 := by simp
      have a0 : (wr.alloc (.cells #[.int .i64 h, .slice (some ⟨bu, ou, none⟩) nu cu] 49)).cell? ⟨wr.heap.size, 0, none⟩ = some (.int .i64 h) := hblk.cell 0
      have a1 : (wr.alloc (.cells #[.int .i64 h, .slice (some ⟨bu, ou, none⟩) nu cu] 49)).cell? ⟨wr.heap.size, 1, none⟩ = some (.slice (some ⟨bu, ou, none⟩) nu cu) := hblk.cell 1
      generalize (wr.alloc (.cells #[.int .i64 h, .slice (some ⟨bu, ou, none⟩) nu cu] 49)) = w0 at *
      have hkk0 : ∀ q, q < k → cells[2 * q]? = some (.int .i64 (shAt (L.take k) q).1) ∧ cells[2 * q + 1]? = some (.slice (some ⟨gs q, 0, none⟩) (shAt (L.take k) q).2.length (cs q)) ∧ OwnI w0 w.heap.size (.slice (some ⟨gs q, 0, none⟩) (shAt (L.take k) q).2.length (cs q)) (shAt (L.take k) q).2 ∧ ∀ j, j < q → gs j < gs q := fun q hq => by
        obtain ⟨g1, g2, g3, g4⟩ := HKK.out q hq
        exact ⟨g1, g2, g3.kept hgr0 (.inr (by simp [Value.ownBlock])), g4⟩
      have HBK := Lib.hid hblk
      have HB0 := Lib.hid hb0
      have HR0 := Lib.hid hr0
      have HRD0 := Lib.hid hrd0
      have HKK0 := Lib.hid hkk0
      clear hblk hb0 hr0 hrd0 hgr0 hkk0 HKK HR HRD HBL HC d0 d1
      have hs1 : w.heap.size < w0.heap.size := by omega
      go_region_law (first
        | (refine step_append_lies _ (by rfl) (.const (.slice none 0 0)) _ _ (by rfl) w0.heap.size 3 i0 _ 1 8 Tryz.underlying24 hi hz0 hz1 hz2 rfl (by omega) (.slice none 0 0) 0 [] (by rfl) (World.ownsRow_nil _ _ _ _) ⟨bu, ou, none⟩ nu cu (xs.map (Value.int .i64)) (by rfl) HRD0.out.1 (fun j u hj => by obtain ⟨ad, e, _, hcc⟩ := HRD0.out.2 l3; injection e with e; subst e; exact hcc j u hj) (ints_oneCell .i64 _) l3 (by simp only [maxLen]; omega) (by omega) (by first | (simp; done) | (simp; omega)) w0.heap.size (by simp) ?_
           intro g1 cap1 w4 hown4 hgrow4 hat4 hlt4
           have hgw : w0.grownBy w4 none := ⟨hgrow4.os, hgrow4.tape, hgrow4.output, hgrow4.size, hgrow4.block⟩
           have hs4 := hgw.size
           have b0 : w4.cell? ⟨wr.heap.size, 0, none⟩ = some (.int .i64 h) := (World.cell?_of_block (hgw.block wr.heap.size (by omega) (by simp))).trans a0
           have b1 : w4.cell? ⟨wr.heap.size, 1, none⟩ = some (.slice (some ⟨bu, ou, none⟩) nu cu) := (World.cell?_of_block (hgw.block wr.heap.size (by omega) (by simp))).trans a1
           have HR4 := Lib.hid (HR0.out.kept hgw (by cases u3.ownBlock <;> simp))
           have HGW := Lib.hid hgw
           have ho4 : w4.ownsRow w0.heap.size 3 1 (.slice (some ⟨g1, 0, none⟩) nu cap1) nu (xs.map (Value.int .i64)) := by simpa using hown4
           have HO4 := Lib.hid ho4
           clear hgw hown4 hgrow4 hat4 ho4)
        | (refine step_append_lies _ (by rfl) _ _ _ (by rfl) w.heap.size 49 j0 _ 2 32 Tryz.underlying41 hj hy0 hy1 hy2 rfl (by omega) u3 k cells (by rfl) (HR4.out.alloc _) ⟨w4.heap.size, 0, none⟩ 1 1 [.int .i64 h, .slice (some ⟨g1, 0, none⟩) nu cap1] (by rfl) (by rfl) (World.news_of_block (cs := #[.int .i64 h, .slice (some ⟨g1, 0, none⟩) nu cap1]) (t := 49) (fr := (0, 0)) (heap_alloc_new w4 _)) (one2 rfl rfl) (by omega) (by simp only [maxLen]; omega) (by omega) (by simp; omega) (w4.heap.size + 1) (by simp) ?_
           intro g2 cap2 w5 hown5 hgrow5 hat5 hlt5))
      all_goals
        have hg5 := grown_past hgrow5
        have hul : ∀ g, u3.ownBlock = some g → w.heap.size ≤ g := fun g hg => (HR4.out.lt g hg).1
        have hkk4 : ∀ q, q < k → cells[2 * q]? = some (.int .i64 (shAt (L.take k) q).1) ∧ cells[2 * q + 1]? = some (.slice (some ⟨gs q, 0, none⟩) (shAt (L.take k) q).2.length (cs q)) ∧ OwnI w4 w.heap.size (.slice (some ⟨gs q, 0, none⟩) (shAt (L.take k) q).2.length (cs q)) (shAt (L.take k) q).2 ∧ ∀ j, j < q → gs j < gs q := fun q hq => by
          obtain ⟨z1, z2, z3, z4⟩ := HKK0.out q hq
          exact ⟨z1, z2, z3.kept HGW.out (.inr (by simp [Value.ownBlock])), z4⟩
        have hgs : ∀ q, q < k → gs q < g1 := fun q hq => by
          obtain ⟨z1, z2, z3, z4⟩ := HKK0.out q hq
          have := z3.lt
          have := (HO4.out.lt g1 rfl).1
          omega
        have hx4 : OwnI w4 w.heap.size (.slice (some ⟨g1, 0, none⟩) xs.length cap1) xs := by
          have := own_mono HO4.out (show w.heap.size ≤ w0.heap.size by omega)
          rw [HNU.out] at this
          exact this
        have hsn := OwnShA.snoc (L := L.take k) (x := (h, xs)) (g1 := g1) (cap1 := cap1) (by rw [HTL.out]; exact HR4.out) (by rw [HTL.out]; exact hkk4) hg5 (by rw [HTL.out, ← HNU.out]; exact hown5) hx4 (by rw [HTL.out]; exact hgs)
        rw [← HST.out] at hsn
        have hb4 : Below w.heap.size w w4 := HB0.out.grown HGW.out (by omega) (fun g hg => by cases hg)
        have hb5 := hb4.grown hg5 hb4.size hul
        have HSN := Lib.hid hsn
        have HB5 := Lib.hid hb5
        clear hown5 hgrow5 hg5 hul hkk4 hsn hb4 hb5 hgs hx4
        go_wp2_with fail
        go_roundw
        case measure => simp [intOf]; omega
        case rel => exact ⟨k + 1, by omega, by go_num, HSN.out, HB5.out⟩
    · have hkn : k = n := by omega
      subst hkn
      go_wp2_with fail
      go_ret
      have := HOWN.out
      rw [List.take_of_length_le (by rw [← HN.out]; exact Nat.le_refl _)] at this
      exact ⟨_, rfl, this, HBL.out⟩
end Go.Proofs.YtjfphobfikadlaaGreatDoor
namespace Go.Proofs.YtjfphobfikadlaaGreatDoor
open Go.RowKit Num

theorem OwnShA.below {w w' : World} {B : Nat} {v : Value} {L : List Sh} (h : OwnShA w B v L) (hb : Below w.heap.size w w') : OwnShA w' B v L := by
  obtain ⟨cells, gs, cs, hr, hk⟩ := h
  refine ⟨cells, gs, cs, hr.kept (only_of_below hb none) (by cases v.ownBlock <;> simp), fun k hk' => ?_⟩
  obtain ⟨h1, h2, h3, h4⟩ := hk k hk'
  exact ⟨h1, h2, h3.below hb, h4⟩
theorem OwnShA.sh {w : World} {B : Nat} {v : Value} {L : List Sh} (h : OwnShA w B v L) : OwnSh w B v L := by
  obtain ⟨cells, gs, cs, hr, hk⟩ := h
  refine ⟨cells, hr, fun k hk' => ?_⟩
  obtain ⟨h1, h2, h3, h4⟩ := hk k hk'
  exact ⟨_, h1, h2, h3⟩
def DealPostA (p k hold : Nat) (sec rnd : List Int) (w : World) (e : Ending) (w' : World) : Prop :=
  ∃ v, e = .returned (.tuple #[v, .int .i64 0]) ∧ OwnShA w' w.heap.size v (dealL p k sec rnd hold) ∧ Below w.heap.size w w'

set_option maxRecDepth 100000 in
set_option maxHeartbeats 4000000 in
theorem r_DealA (p k hold : Nat) (sec rnd : List Int) (vs vr : Value) (w : World) (hp : Prm p) (h2 : p ≤ 1073741824) (n2 : k + 1 ≤ hold) (n3 : hold ≤ 16) (n4 : hold < p)
    (hs : IntsAt w (Old w) vs sec) (hr : IntsAt w (Old w) vr rnd) (fs : InF p sec) (fr : InF p rnd) (l0 : 0 < sec.length) (ls : sec.length ≤ 2048) (lr : rnd.length = sec.length * k) :
    Calls Tryz.prog 83 #[planV p (k + 1) hold, vs, vr] w (DealPostA p k hold sec rnd w) := by
  obtain ⟨i0, hi, hz0, hz1, hz2⟩ := info_parts infoI
  obtain ⟨j0, hj, hy0, hy1, hy2⟩ := info_parts infoS
  have lr2 : rnd.length ≤ 1000000 := by
    have : sec.length * k ≤ 2048 * 16 := Nat.mul_le_mul ls (by omega)
    omega
  obtain ⟨As, ns, cs, rfl, hns, hcs, hcells⟩ := id hs
  obtain ⟨Ar, nr, cr, rfl, hnr, hcr, hcellr⟩ := id hr
  have hrr := hr.reads (B := w.heap.size) (fun b hb => hb)
  have HNS := Lib.hid hns
  have HNR := Lib.hid hnr
  have HS := Lib.hid hs
  have HR := Lib.hid hr
  have HRR := Lib.hid hrr
  have LR := Lib.hid lr
  have lns : ns ≤ 2048 := by omega
  have lns0 : 0 < ns := by omega
  have lnr : nr ≤ 1000000 := by omega
  clear hns hnr hs hr hrr lr
  have epl : planV p (k + 1) hold = .agg #[.int .i64 (p : Int), .int .i64 ((k : Int) + 1), .int .i64 (hold : Int)] := rfl
  rw [epl]
  go_enter Tryz.func83, Tryz.ntmps83
  go_wp2_with fail
  refine (r_PValid p (k + 1) hold _ hp h2 (by omega) (by omega) (by omega) (by omega)).mono ?_
  rintro e w1 ⟨rfl, hb1⟩
  have s1 := hb1.size
  have hbk1 : Blk w1 w.heap.size 34 #[.int .i64 (p : Int), .int .i64 ((k : Int) + 1), .int .i64 (hold : Int)] := (Blk.new w _ _).below hb1 (by simp)
  have hw1 : Below w.heap.size w w1 := ((Below.refl _ _).alloc (Nat.le_refl _) _).trans (hb1.mono (by simp))
  have p0 : w1.cell? ⟨w.heap.size, 0, none⟩ = some (.int .i64 (p : Int)) := hbk1.cell 0
  have p1 : w1.cell? ⟨w.heap.size, 1, none⟩ = some (.int .i64 ((k : Int) + 1)) := hbk1.cell 1
  have p2 : w1.cell? ⟨w.heap.size, 2, none⟩ = some (.int .i64 (hold : Int)) := hbk1.cell 2
  go_wp2_with fail
  refine (r_Elements p _ sec _ _ hp h2 (HS.out.below hw1) (by omega) fs).mono ?_
  rintro e w' ⟨rfl, rfl⟩
  go_wp2_with fail
  refine (r_Elements p _ rnd _ _ hp h2 (HR.out.below hw1) (by omega) fr).mono ?_
  rintro e w' ⟨rfl, rfl⟩
  go_wp2_with fail
  refine (r_Random p (k + 1) hold ns _ (by omega) (by omega) (by omega)).mono ?_
  rintro e w2 ⟨rfl, hb2⟩
  have hnn : nr = ns * k := by rw [HNR.out, LR.out, ← HNS.out]
  have hne : ((nr : Int) != (ns : Int) * (k : Int)) = false := by rw [hnn, ← Int.natCast_mul]; simp
  have hbk2 := hbk1.below hb2 hbk1.lt
  have hw2 := hw1.trans (hb2.mono hw1.size)
  have s2 := hb2.size
  have z1 := hbk1.lt
  have HNN := Lib.hid hnn
  have HB := Lib.hid hbk2
  have HW := Lib.hid hw2
  have q0 : w2.cell? ⟨w.heap.size, 0, none⟩ = some (.int .i64 (p : Int)) := hbk2.cell 0
  have q1 : w2.cell? ⟨w.heap.size, 1, none⟩ = some (.int .i64 ((k : Int) + 1)) := hbk2.cell 1
  have q2 : w2.cell? ⟨w.heap.size, 2, none⟩ = some (.int .i64 (hold : Int)) := hbk2.cell 2
  clear hnn hbk1 hbk2 hw1 hw2 hb1 hb2 p0 p1 p2 hcells hcellr epl s1
  go_wp2_with fail
  clear q0 q1 q2 hne
  go_loopw [8, 10] (fun v i wr => ∃ j : Nat, j ≤ hold ∧ i = .int .i64 ((j : Int) + 1) ∧ OwnShA wr w.heap.size v (dealL p k sec rnd j) ∧ Blk wr w.heap.size 34 #[.int .i64 (p : Int), .int .i64 ((k : Int) + 1), .int .i64 (hold : Int)] ∧ Below w.heap.size w wr) (fun _ i _ => (hold + 1) - (intOf i).toNat)
  case atStart => exact ⟨0, by omega, rfl, OwnShA.nil _ _, HB.out, HW.out⟩
  case round =>
    obtain ⟨j, hj', rfl, hown, hbk, hbl⟩ := hrel
    have q0 : wr.cell? ⟨w.heap.size, 0, none⟩ = some (.int .i64 (p : Int)) := hbk.cell 0
    have q2 : wr.cell? ⟨w.heap.size, 2, none⟩ = some (.int .i64 (hold : Int)) := hbk.cell 2
    have z2 := hbk.lt
    have HOWN := Lib.hid hown
    have HBK := Lib.hid hbk
    have HBL := Lib.hid hbl
    clear hown hbk hbl
    by_cases hlt : j < hold
    · have t0 : decide ((j : Int) + 1 ≤ (hold : Int)) = true := decide_eq_true (by omega)
      obtain ⟨wo, rfl⟩ : ∃ wo : World, wo = wr := ⟨_, rfl⟩
      have hx8 := own_lt (HOWN.out).choose_spec.choose_spec.choose_spec.1
      have HX8 := Lib.hid hx8
      clear hx8
      go_wp2_with fail
      go_loopw [58] (fun i wq => ∃ (t : Nat) (u : Value), t ≤ ns ∧ i = .int .i64 (t : Int) ∧ Blk wq wo.heap.size 49 #[.int .i64 ((j : Int) + 1), u] ∧ wq.ownsRow wo.heap.size 3 1 u t (((List.range t).map (dealV p k (j + 1) sec rnd)).map (Value.int .i64)) ∧ Below wo.heap.size wo wq) (fun i _ => ns - (intOf i).toNat)
      case atStart => exact ⟨0, .slice none 0 0, by omega, rfl, Blk.new _ _ _, World.ownsRow_nil _ _ _ _, (Below.refl _ _).alloc (Nat.le_refl _) _⟩
      case round =>
        obtain ⟨t, u, ht, rfl, hbs, hu, hbo⟩ := hrel
        have hbk := HBK.out.below hbo z2
        have hbl := HBL.out.trans (hbo.mono (by omega))
        have z3 := hbk.lt
        have z4 := hbs.lt
        by_cases htn : t < ns
        · have hsr := HS.out.below hbl
          obtain ⟨A', n', c', hv, e2, e3, hcs'⟩ := hsr
          injection hv with v1 v2 v3
          subst v1 v2 v3
          obtain ⟨b, off, rfl, hS, hcell⟩ := hcs' (by omega)
          have ck := hcell t htn
          have hle : (t + 1) * k ≤ ns * k := Nat.mul_le_mul_right k htn
          have hle2 : t * k ≤ (t + 1) * k := Nat.mul_le_mul_right k (by omega)
          have g1 : (t : Int) * (k : Int) = ((t * k : Nat) : Int) := (Int.natCast_mul t k).symm
          have g2 : ((t : Int) + 1) * (k : Int) = (((t + 1) * k : Nat) : Int) := by rw [Int.natCast_mul]; rfl
          have hnn := HNN.out
          have m0 : 0 ≤ (t : Int) * (k : Int) := by omega
          have m1 : (t : Int) * (k : Int) ≤ ((t : Int) + 1) * (k : Int) := by omega
          have m2 : ((t : Int) + 1) * (k : Int) ≤ (cr : Int) := by omega
          have m3 : ((t : Int) * (k : Int)).toNat = t * k := by omega
          have m4 : (((t : Int) + 1) * (k : Int)).toNat = (t + 1) * k := by omega
          have m5 : ((t : Int) + 1) * (k : Int) ≤ 1000000 := by omega
          have q1 : (t : Int) < (ns : Int) := by omega
          have HBS := Lib.hid hbs
          have HU := Lib.hid hu
          have HBO := Lib.hid hbo
          have HBK2 := Lib.hid hbk
          have HBL2 := Lib.hid hbl
          have HCS := Lib.hid hcell
          have hsl := fun (W : World) => run_slice_lohi (P := Tryz.prog) W 24 3 i0 1 Tryz.underlying24 hi hz1 Ar nr cr (t * k) ((t + 1) * k) hle2 (by omega) ((t : Int) * (k : Int)) (((t : Int) + 1) * (k : Int)) g1 g2
          have hdk : (t + 1) * k - t * k = k := by rw [Nat.add_mul, Nat.one_mul, Nat.add_sub_cancel_left]
          simp only [hdk] at hsl
          obtain ⟨x, hx⟩ : ∃ x, sec.getD t 0 = x := ⟨_, rfl⟩
          obtain ⟨R, hR⟩ : ∃ R, (rnd.drop (t * k)).take k = R := ⟨_, rfl⟩
          rw [hx] at ck
          have hrd : Reads wr w.heap.size 1 (subA Ar cr (t * k) 1) k (R.map (Value.int .i64)) := by
            have := (HRR.out.below HBL2.out).sub (lo := t * k) (hg := (t + 1) * k) (cap := cr) hle2 (by omega) hcr
            rw [hdk, Nat.mul_one, Nat.mul_one, ← List.map_drop, ← List.map_take, hR] at this
            exact this
          have hRl : R.length = k := by have := hrd.1; simpa using this
          have hval : dealV p k (j + 1) sec rnd t = evH p ((j : Int) + 1) (x :: R) := by unfold dealV; rw [hx, hR]; rfl
          have hin : InF p (x :: R) := by
            intro i hi
            cases i with
            | zero => have := fs t (by have := HNS.out; omega); rw [hx] at this; exact this
            | succ i =>
              have hi' : i < R.length := by simpa using hi
              have h3 := LR.out
              have h5 := HNS.out
              have h4 := HNN.out
              have h6 := HNR.out
              have := fr (t * k + i) (by omega)
              have e : (x :: R).getD (i + 1) 0 = rnd.getD (t * k + i) 0 := by
                rw [List.getD_eq_getElem?_getD, List.getElem?_cons_succ, ← hR, List.getElem?_take, if_pos (by omega), List.getElem?_drop, ← List.getD_eq_getElem?_getD]
              rwa [e]
          have HRD := Lib.hid hrd
          have HVAL := Lib.hid hval
          have HIN := Lib.hid hin
          have kl : k ≤ 16 := by omega
          clear hbs hu hbo hbk hbl hcell hcs' g1 g2 hnn e2 e3 hdk hrd hx hR hval hin
          go_wp2_with (at_builtin; refine wpList_append_any _ rfl (.tmp 64) (.tmp 73) _ rfl w.heap.size 3 i0 _ 1 8 Tryz.underlying24 hi hz0 hz1 hz2 rfl (by omega) (.slice (some ⟨wr.heap.size, 0, none⟩) 1 1) 1 [.int .i64 x] rfl (own_built wr w.heap.size 3 _ (by omega)) w.heap.size (subA Ar cr (t * k) 1) k (cr - t * k) (R.map (Value.int .i64)) rfl (HRD.out.alloc (by omega) _) (ints_oneCell .i64 _) (by simp only [maxLen]; omega) (by omega) (by simp; omega) ?_)
          intro v' w3 hown' hgrow hloc
          have hg0 : wr.grownBy w3 (some wr.heap.size) := ⟨hgrow.os, hgrow.tape, hgrow.output, Nat.le_trans (by simp) hgrow.size, fun i hi hn => (hgrow.block i (by simp; omega) (by simpa [Value.ownBlock] using hn)).trans (Below.heap_alloc wr _ i hi)⟩
          have hb3 : Below w.heap.size w w3 := HBL2.out.grown hg0 (by omega) (fun g hg => by injection hg with hg; omega)
          have hbs3 := HBS.out.grown hg0 (by simp; omega)
          have hbk3 := HBK2.out.grown hg0 (by simp; omega)
          have hu3 := HU.out.kept hg0 (own_lt HU.out)
          have hbo3 : Below wo.heap.size wo w3 := HBO.out.grown hg0 (by omega) (fun g hg => by injection hg with hg; omega)
          have hpo : IntsAt w3.drew (fun b => w.heap.size ≤ b ∧ b < w3.drew.heap.size) v' (x :: R) := IntsAt.of_own (w := w3.drew) (n := 1 + k) hown'
          have z5 : w.heap.size < w3.heap.size := hbk3.lt
          have z6 : wo.heap.size < w3.heap.size := hbs3.lt
          have c0 : w3.cell? ⟨wo.heap.size, 0, none⟩ = some (.int .i64 ((j : Int) + 1)) := hbs3.cell 0
          have c1 : w3.cell? ⟨wo.heap.size, 1, none⟩ = some u := hbs3.cell 1
          have f1 : w3.frozen? ⟨wo.heap.size, 1, none⟩ = false := hbs3.frozen 1
          have d0 : w3.cell? ⟨w.heap.size, 0, none⟩ = some (.int .i64 (p : Int)) := hbk3.cell 0
          have hux : u.ownBlock ≠ some wo.heap.size := own_blk_ne hu3 hbs3 (by decide)
          have hup : u.ownBlock ≠ some w.heap.size := own_blk_ne hu3 hbk3 (by decide)
          have ka : ∀ o : Obj, Below w3.heap.size w3 (w3.alloc o).drew := fun o => ((Below.refl _ _).alloc (Nat.le_refl _) o).drew
          have k0 : ∀ o : Obj, (w3.alloc o).drew.cell? ⟨wo.heap.size, 1, none⟩ = some u := fun o => ((ka o).cell (p := ⟨wo.heap.size, 1, none⟩) z6).trans c1
          have k1 : ∀ o : Obj, (w3.alloc o).drew.frozen? ⟨wo.heap.size, 1, none⟩ = false := fun o => ((ka o).frozen (p := ⟨wo.heap.size, 1, none⟩) z6).trans f1
          have k2 : ∀ o : Obj, (w3.alloc o).drew.cell? ⟨w.heap.size, 0, none⟩ = some (.int .i64 (p : Int)) := fun o => ((ka o).cell (p := ⟨w.heap.size, 0, none⟩) z5).trans d0
          have K0 := Lib.hid k0
          have K1 := Lib.hid k1
          have K2 := Lib.hid k2
          clear ka k0 k1 k2
          have HPO := Lib.hid hpo
          have HB3 := Lib.hid hb3
          have HBS3 := Lib.hid hbs3
          have HBK3 := Lib.hid hbk3
          have HU3 := Lib.hid hu3
          have HBO3 := Lib.hid hbo3
          have lR : (x :: R).length ≤ 17 := by simp; omega
          clear hown' hgrow hloc hg0 hb3 hbs3 hbk3 hu3 hbo3 hpo hsl
          go_wp2_with fail
          go_region_law (first
            | (refine step_append_lies _ (by rfl) _ _ _ (by rfl) wo.heap.size 3 i0 _ 1 8 Tryz.underlying24 hi hz0 hz1 hz2 rfl (by omega) u t _ (by rfl) ((HU3.out.alloc _).drew) ⟨w3.heap.size, 0, none⟩ 1 1 [.int .i64 (evH p ((j : Int) + 1) (x :: R))] (by rfl) (by rfl) (cell_one_new _ _ _) (ints_oneCell .i64 [_]) (by omega) (by simp only [maxLen]; omega) (by omega) (by simp; omega) (w3.heap.size + 1) (by simp) ?_; intro gg cap w4 hown4 hgrow4 hat4 hlt4; have c4 : w4.cell? ⟨wo.heap.size, 1, none⟩ = some u := (hgrow4.cell_far _ (by simp; omega) (Ne.symm hux)).trans (K0.out _); have f4 : w4.frozen? ⟨wo.heap.size, 1, none⟩ = false := (hgrow4.frozen_far _ (by simp; omega) (Ne.symm hux)).trans (K1.out _))
            | (go_simp; go_at_call 101; ((with_reducible refine (r_EvalI p ((j : Int) + 1) v' (x :: R) _ _ (by omega) h2 (by omega) (by omega) HPO.out (by omega) HIN.out).mono ?_); rintro e wk ⟨rfl, rfl⟩)))
          all_goals
            have hgT : w3.grownBy w4 u.ownBlock := ⟨hgrow4.os, hgrow4.tape, hgrow4.output, Nat.le_trans (by simp) hgrow4.size, fun i hi hn => (hgrow4.block i (by simp; omega) hn).trans (Below.heap_alloc w3 _ i hi)⟩
            have hul : ∀ g, u.ownBlock = some g → wo.heap.size ≤ g := fun g hg => (HU3.out.lt g hg).1
            have hb4 : Below wo.heap.size wo w4 := HBO3.out.grown hgT (by omega) hul
            have hbs4 := HBS3.out.grown hgT (Ne.symm hux)
            have hne4 := own_blk_ne hown4 hbs4 (by decide)
            have HB4 := Lib.hid hb4
            have HBS4 := Lib.hid hbs4
            have HO4 := Lib.hid hown4
            clear hgrow4 hown4 hgT hul hb4 hbs4 hat4
            go_wp2_with fail
            go_roundw
            case measure => simp [intOf]; omega
            case rel =>
              refine ⟨t + 1, .slice (some ⟨gg, 0, none⟩) (t + 1) cap, by omega, by go_num, HBS4.out.set_ 1 _, ?_, HB4.out.setCell (p := ⟨wo.heap.size, 1, none⟩) (Nat.le_refl _) _⟩
              rw [List.range_succ, List.map_append, List.map_append]
              have := HO4.out.kept (only_setCell (World.grownBy.refl w4 _) (p := ⟨wo.heap.size, 1, none⟩) (.inl rfl) (.slice (some ⟨gg, 0, none⟩) (t + 1) cap)) (.inr hne4)
              rw [← HVAL.out] at this
              exact this
        · have htn' : t = ns := by omega
          subst htn'
          have c0 : wr.cell? ⟨wo.heap.size, 0, none⟩ = some (.int .i64 ((j : Int) + 1)) := hbs.cell 0
          have c1 : wr.cell? ⟨wo.heap.size, 1, none⟩ = some u := hbs.cell 1
          have HBS := Lib.hid hbs
          have HBO := Lib.hid hbo
          have HBL2 := Lib.hid hbl
          have HBK2 := Lib.hid hbk
          obtain ⟨cells, gs, cs', hr0, hk0⟩ := HOWN.out
          have hr := hr0.kept (only_of_below hbo none) (by cases u8.ownBlock <;> simp)
          have hgl0 : ∀ q, q < (dealL p k sec rnd j).length → gs q < wo.heap.size := fun q hq => (hk0 q hq).2.2.1.lt.2
          have hkk : ∀ q, q < (dealL p k sec rnd j).length → cells[2 * q]? = some (.int .i64 (shAt (dealL p k sec rnd j) q).1) ∧ cells[2 * q + 1]? = some (.slice (some ⟨gs q, 0, none⟩) (shAt (dealL p k sec rnd j) q).2.length (cs' q)) ∧ OwnI wr w.heap.size (.slice (some ⟨gs q, 0, none⟩) (shAt (dealL p k sec rnd j) q).2.length (cs' q)) (shAt (dealL p k sec rnd j) q).2 ∧ ∀ i, i < q → gs i < gs q := fun q hq => by
            obtain ⟨h1, h2, h3, h4⟩ := hk0 q hq
            exact ⟨h1, h2, h3.below hbo, h4⟩
          obtain ⟨gu, capu, rfl⟩ : ∃ g cap, u = .slice (some ⟨g, 0, none⟩) t cap := by
            rcases hu.2 with ⟨_, h0⟩ | ⟨g, cap, cur, hv, _⟩
            · omega
            · exact ⟨g, cap, hv⟩
          have hgu := (hu.lt gu rfl).1
          have hx : OwnI wr w.heap.size (.slice (some ⟨gu, 0, none⟩) ((List.range t).map (dealV p k (j + 1) sec rnd)).length capu) ((List.range t).map (dealV p k (j + 1) sec rnd)) := by
            have := own_mono hu (show w.heap.size ≤ wo.heap.size by omega)
            unfold OwnI
            simpa using this
          have h1c := own_one hu
          have hdl : (dealL p k sec rnd j).length = j := by simp [dealL]
          rw [hdl] at hr hkk hgl0
          have hgl : ∀ q, q < j → gs q < gu := fun q hq => by
            have := hgl0 q hq
            omega
          clear hr0 hk0 hgl0
          have HKK := Lib.hid hkk
          have HXX := Lib.hid hx
          have HGL := Lib.hid hgl
          clear hbs hu hbo hbl hbk hkk hx hgl
          go_wp2_with (at_builtin; refine wpList_append_own _ rfl _ _ 41 rfl w.heap.size 49 j0 _ 2 32 Tryz.underlying41 hj hy0 hy1 hy2 rfl (by decide) _ _ _ rfl (hr.alloc _) ⟨wr.heap.size, 0, none⟩ 1 1 [.int .i64 ((j : Int) + 1), .slice (some ⟨gu, 0, none⟩) t capu] rfl rfl (World.news_of_block (cs := #[.int .i64 ((j : Int) + 1), .slice (some ⟨gu, 0, none⟩) t capu]) (t := 49) (fr := (0, 0)) (heap_alloc_new wr _)) (one2 rfl h1c) (by simp only [maxLen]; omega) (by omega) (by simp; omega) ?_)
          intro v5 w5 hown5 hgrow5 _
          have hg5 := grown_past hgrow5
          have hul : ∀ g, u8.ownBlock = some g → w.heap.size ≤ g := fun g hg => (hr.lt g hg).1
          have hne5 := own_blk_ne hr HBK2.out (by decide)
          have hsn := OwnShA.snoc (L := dealL p k sec rnd j) (x := ((j : Int) + 1, (List.range t).map (dealV p k (j + 1) sec rnd))) (g1 := gu) (cap1 := capu) (by rw [hdl]; exact hr) (by rw [hdl]; exact HKK.out) hg5 (by rw [hdl]; simpa using hown5) HXX.out (by rw [hdl]; exact HGL.out)
          have hb5 := HBL2.out.grown hg5 (by omega) hul
          have hbk5 := HBK2.out.grown hg5 (Ne.symm hne5)
          have HSN := Lib.hid hsn
          have HB5 := Lib.hid hb5
          have HBK5 := Lib.hid hbk5
          clear hown5 hgrow5 hg5 hul hne5 hsn hb5 hbk5 hr
          go_wp2_with fail
          go_roundw
          case measure => simp [intOf]; omega
          case rel =>
            refine ⟨j + 1, by omega, by go_num, ?_, HBK5.out, HB5.out⟩
            have e : dealL p k sec rnd (j + 1) = dealL p k sec rnd j ++ [((j : Int) + 1, (List.range t).map (dealV p k (j + 1) sec rnd))] := by
              unfold dealL; rw [List.range_succ, List.map_append, ← HNS.out]; rfl
            rw [e]
            exact HSN.out
    · have hjh : j = hold := by omega
      subst hjh
      have t0 : decide ((j : Int) + 1 ≤ (j : Int)) = false := decide_eq_false (by omega)
      go_wp2_with fail
      go_ret2
      exact ⟨_, rfl, HOWN.out, HBL.out⟩
/-- The same, the blocks named. -/
def OwnShG (w : World) (B : Nat) (v : Value) (L : List Sh) (cells : List Value) (gs cs : Nat → Nat) : Prop := w.ownsRow B 49 2 v L.length cells ∧
  ∀ k, k < L.length → cells[2 * k]? = some (.int .i64 (shAt L k).1) ∧ cells[2 * k + 1]? = some (.slice (some ⟨gs k, 0, none⟩) (shAt L k).2.length (cs k)) ∧ OwnI w B (.slice (some ⟨gs k, 0, none⟩) (shAt L k).2.length (cs k)) (shAt L k).2 ∧ ∀ j, j < k → gs j < gs k
theorem OwnShG.a {w : World} {B : Nat} {v : Value} {L : List Sh} {cells : List Value} {gs cs : Nat → Nat} (h : OwnShG w B v L cells gs cs) : OwnShA w B v L := ⟨cells, gs, cs, h⟩
theorem shAt_set (L : List Sh) (i k : Nat) (x : Sh) (hi : i < L.length) : shAt (L.set i x) k = if k = i then x else shAt L k := getD_setR L i k x _ hi
section
variable {w w' : World} {B : Nat} {v : Value} {L : List Sh} {cells : List Value} {gs cs : Nat → Nat}
theorem OwnShG.ne (h : OwnShG w B v L cells gs cs) {i k : Nat} (hi : i < L.length) (hk : k < L.length) (hne : k ≠ i) : gs k ≠ gs i := by
  rcases Nat.lt_or_ge k i with h1 | h1
  · have := (h.2 i hi).2.2.2 k h1; omega
  · have := (h.2 k hk).2.2.2 i (by omega); omega
theorem OwnShG.kept {row : Option Nat} (h : OwnShG w B v L cells gs cs) (hg : w.grownBy w' row) (hv : v.ownBlock = none ∨ v.ownBlock ≠ row) (hu : ∀ k, k < L.length → some (gs k) ≠ row) : OwnShG w' B v L cells gs cs :=
  ⟨h.1.kept hg hv, fun k hk => ⟨(h.2 k hk).1, (h.2 k hk).2.1, (h.2 k hk).2.2.1.kept hg (.inr (hu k hk)), (h.2 k hk).2.2.2⟩⟩
theorem OwnShG.below (h : OwnShG w B v L cells gs cs) (hb : Below w.heap.size w w') : OwnShG w' B v L cells gs cs :=
  h.kept (only_of_below hb none) (by cases v.ownBlock <;> simp) (fun k hk => by simp)
theorem OwnShG.drew (h : OwnShG w B v L cells gs cs) : OwnShG w.drew B v L cells gs cs := h
theorem OwnShG.far (h : OwnShG w B v L cells gs cs) {i : Nat} (hi : i < L.length) : v.ownBlock = none ∨ v.ownBlock ≠ some (gs i) := by
  have h2 := (h.2 i hi).2.2.1
  exact (own_ne h2 h.1 (by decide)).elim (fun e => by simp [Value.ownBlock] at e) (fun e => .inr (Ne.symm e))
/-- A value of a share is written. -/
theorem OwnShG.put (h : OwnShG w B v L cells gs cs) {i : Nat} (hi : i < L.length) (j : Nat) (y : Int) :
    OwnShG (w.setCell ⟨gs i, j, none⟩ (.int .i64 y)) B v (L.set i ((shAt L i).1, (shAt L i).2.set j y)) cells gs cs ∧ w.grownBy (w.setCell ⟨gs i, j, none⟩ (.int .i64 y)) (some (gs i)) := by
  have hg : w.grownBy (w.setCell ⟨gs i, j, none⟩ (.int .i64 y)) (some (gs i)) := only_setCell (World.grownBy.refl w _) (p := ⟨gs i, j, none⟩) (.inl rfl) _
  refine ⟨⟨by rw [List.length_set]; exact h.1.kept hg (h.far hi), fun k hk => ?_⟩, hg⟩
  rw [List.length_set] at hk
  obtain ⟨h1, h2, h3, h4⟩ := h.2 k hk
  rw [shAt_set L i k _ hi]
  by_cases e : k = i
  · subst e
    rw [if_pos rfl]
    refine ⟨h1, by rw [List.length_set]; exact h2, ?_, h4⟩
    have := h3.set j y
    rwa [List.length_set]
  · rw [if_neg e]
    exact ⟨h1, h2, h3.kept hg (.inr (by simp [Value.ownBlock]; exact h.ne hi hk e)), h4⟩
theorem OwnShG.form (h : OwnShG w B v L cells gs cs) (h0 : 0 < L.length) : ∃ g cap, v = .slice (some ⟨g, 0, none⟩) L.length cap ∧ L.length ≤ cap ∧ B ≤ g ∧ g < w.heap.size ∧
    ∀ k, k < L.length → w.cell? ⟨g, 2 * k, none⟩ = some (.int .i64 (shAt L k).1) ∧ w.cell? ⟨g, 2 * k + 1, none⟩ = some (.slice (some ⟨gs k, 0, none⟩) (shAt L k).2.length (cs k)) := by
  rcases id h.1.2 with ⟨rfl, h0'⟩ | ⟨g, cap, cur, rfl, hB, hh, hnc, hm, hs, ht⟩
  · omega
  · refine ⟨g, cap, rfl, hnc, hB, (Array.getElem?_eq_some_iff.1 hh).1, fun k hk => ?_⟩
    obtain ⟨h1, h2, h3, h4⟩ := h.2 k hk
    have key : ∀ j x, cells[j]? = some x → w.cell? ⟨g, j, none⟩ = some x := fun j x hx => by
      have hc := h.1.cells (g := g) rfl j x hx
      have ha : (⟨g, 0, none⟩ : Addr).add j = ⟨g, j, none⟩ := by unfold Addr.add; split <;> simp_all
      rwa [ha] at hc
    exact ⟨key _ _ h1, key _ _ h2⟩
end
end Go.Proofs.YtjfphobfikadlaaGreatDoor
