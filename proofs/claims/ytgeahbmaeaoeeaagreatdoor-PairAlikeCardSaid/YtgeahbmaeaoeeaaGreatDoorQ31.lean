/- Contracts: the bytes of any statement, the program's and the reference's. -/
import Derived.Test.YtgeahbmaeaoeeaaGreatDoorQ20
import Derived.Test.YtgeahbmaeaoeeaaGreatDoorQ30
import Derived.RegionTactic
import Derived.Deep.Cut
import Derived.BigRegion
import Derived.Deep.RegionHeld3
set_option linter.unusedVariables false
set_option linter.unusedSimpArgs false
namespace Go.Proofs.YtgeahbmaeaoeeaaGreatDoor
open Go.RowKit Num

def prnZ (L : List Trm) : Int := match rootF L with | none => 14 | some _ => 0
theorem prn_post {L : List Trm} {w w' : World} {e : Ending} (h : PrintPost w (rootF L) e w') : e = .returned (.tuple #[.string (prnS L), .int .i64 (prnZ L)]) ∧ Below w.heap.size w w' := by
  obtain ⟨h1, h2⟩ := h
  refine ⟨?_, h2⟩
  rw [h1]
  unfold prnS prnZ
  cases rootF L <;> rfl
theorem stmA_zero (s : Stm) : stmA s 0 = headL s := by unfold stmA; simp
theorem stmC_zero (s : Stm) (t : ByteArray) : stmC s t 0 = stmB s t := by unfold stmC; simp
theorem bytS_none {s : Stm} (h : rootF s.cond = none) : bytS s = ⟨#[]⟩ ∧ bytZ s = 14 := by unfold bytS bytZ; rw [h]; exact ⟨rfl, rfl⟩
theorem bytS_many {s : Stm} (h : (rootF s.cond).isSome = true) (hm : ¬ max s.ans.length s.shw.length ≤ 256) : bytS s = ⟨#[]⟩ ∧ bytZ s = 3 := by unfold bytS bytZ; rw [if_pos h, if_pos h, if_neg hm, if_neg hm]; exact ⟨rfl, rfl⟩
theorem bytS_long {s : Stm} (h : (rootF s.cond).isSome = true) (hm : max s.ans.length s.shw.length ≤ 256) (hl : ¬ (stmW s).length ≤ 16384) : bytS s = ⟨#[]⟩ ∧ bytZ s = 3 := by unfold bytS bytZ; rw [if_pos h, if_pos h, if_pos hm, if_pos hm, if_neg hl, if_neg hl]; exact ⟨rfl, rfl⟩
theorem bytS_good {s : Stm} (h : (rootF s.cond).isSome = true) (hm : max s.ans.length s.shw.length ≤ 256) (hl : (stmW s).length ≤ 16384) : bytS s = bO (stmW s) ∧ bytZ s = 0 := by unfold bytS bytZ; rw [if_pos h, if_pos h, if_pos hm, if_pos hm, if_pos hl, if_pos hl]; exact ⟨rfl, rfl⟩
set_option maxRecDepth 100000 in
set_option maxHeartbeats 16000000 in
theorem s_Bytes (s : Stm) (Aa Ac As : Option Addr) (na ca nc cc ns cs : Nat) (S : Nat → Prop) (w : World) (hv : StmAt w S (.slice Aa na ca) (.slice Ac nc cc) (.slice As ns cs) s) (hS : ∀ b, S b → b < w.heap.size) (hok : StmOk s) (hl : LibOk w) :
    Calls Tryz.prog 56 #[.agg #[.string s.resp, .int .i64 s.dep, .int .i64 s.day, .slice Aa na ca, .slice Ac nc cc, .slice As ns cs]] w (BytE s w) := by
  obtain ⟨A1, n1, c1, e1, hna, hca, hA⟩ := id hv.aa
  injection e1 with q1 q2 q3
  subst q1 q2 q3
  obtain ⟨A1, n1, c1, e1, hns, hcs, hSh⟩ := id hv.ss
  injection e1 with q1 q2 q3
  subst q1 q2 q3
  have hb0 : Below w.heap.size w (w.alloc (.cells #[.string s.resp, .int .i64 s.dep, .int .i64 s.day, .slice Aa na ca, .slice Ac nc cc, .slice As ns cs] 61)) := (Below.refl _ _).alloc (Nat.le_refl _) _
  have hs0 : (w.alloc (.cells #[.string s.resp, .int .i64 s.dep, .int .i64 s.day, .slice Aa na ca, .slice Ac nc cc, .slice As ns cs] 61)).heap.size = w.heap.size + 1 := by simp
  have hbk : Blk (w.alloc (.cells #[.string s.resp, .int .i64 s.dep, .int .i64 s.day, .slice Aa na ca, .slice Ac nc cc, .slice As ns cs] 61)) w.heap.size 61 #[.string s.resp, .int .i64 s.dep, .int .i64 s.day, .slice Aa na ca, .slice Ac nc cc, .slice As ns cs] := Blk.new w _ _
  have hpr := fun (W : World) (hb : Below w.heap.size w W) => (f_Print (.slice Ac nc cc) s.cond w.heap.size W ((hv.cc.keep fun b hB => hb.block b (hS b hB)).mono hS) hb.size hok.cn hok.cond (hl.later hb)).mono fun _ _ h => prn_post h
  have HB0 := Lib.hid hb0
  have HBK := Lib.hid hbk
  have HPR := Lib.hid hpr
  have HA := Lib.hid hA
  have HSH := Lib.hid hSh
  have HNA := Lib.hid hna
  have HNS := Lib.hid hns
  have HS := Lib.hid hS
  have HOK := Lib.hid hok
  have hps := prnS_size s.cond
  have hq := hok.resp
  cases hrt : rootF s.cond with
  | none =>
    have he := bytS_none hrt
    have hz : prnZ s.cond = 14 := by unfold prnZ; rw [hrt]
    have HE := Lib.hid he
    have HZ := Lib.hid hz
    clear he hz hrt hb0 hbk hpr hA hSh hna hns hS hok hv hl
    go_enter Tryz.func56, Tryz.ntmps56
    go_wp2_with fail
    refine (HPR.out _ HB0.out).mono ?_
    rw [HZ.out]
    rintro e w1 ⟨rfl, hb1⟩
    have HB1 := Lib.hid (HB0.out.trans (hb1.mono HB0.out.size))
    clear hb1
    go_wp2_with fail
    go_ret2
    exact ⟨by rw [HE.out.1, HE.out.2]; rfl, HB1.out⟩
  | some T =>
    have hz : prnZ s.cond = 0 := by unfold prnZ; rw [hrt]
    have hsome : (rootF s.cond).isSome = true := by rw [hrt]; rfl
    have HZ := Lib.hid hz
    have HSO := Lib.hid hsome
    clear hz hrt hsome
    by_cases hm : 256 < max s.ans.length s.shw.length
    · have he := bytS_many HSO.out (Nat.not_le.2 hm)
      have HE := Lib.hid he
      have hmx : max (na : Int) (ns : Int) = ((max na ns : Nat) : Int) := by omega
      have hgt : (256 : Int) < ((max na ns : Nat) : Int) := by have := HNA.out; have := HNS.out; omega
      have hgt2 : (256 : Int) < max (na : Int) (ns : Int) := by omega
      clear he hm hb0 hbk hpr hA hSh hna hns hS hok hv hl
      go_enter Tryz.func56, Tryz.ntmps56
      go_wp2_with fail
      refine (HPR.out _ HB0.out).mono ?_
      rw [HZ.out]
      rintro e w1 ⟨rfl, hb1⟩
      have bxw1 := HBK.out.below' hb1 (by omega)
      have y3 := (bxw1.cell 3).trans (show _ = some (Value.slice Aa na ca) from rfl)
      have y5 := (bxw1.cell 5).trans (show _ = some (Value.slice As ns cs) from rfl)
      have HB1 := Lib.hid (HB0.out.trans (hb1.mono HB0.out.size))
      clear hb1 bxw1
      go_wp2_with fail
      go_ret2
      exact ⟨by rw [HE.out.1, HE.out.2]; rfl, HB1.out⟩
    have hm : max s.ans.length s.shw.length ≤ 256 := Nat.not_lt.1 hm
    have hn256 : s.ans.length ≤ 256 := by omega
    have hs256 : s.shw.length ≤ 256 := by omega
    have ha256 : na ≤ 256 := by omega
    have hb256 : ns ≤ 256 := by omega
    have hlA := fun k hk => stmA_len hok k hk
    have hlB := stmB_len hok hps hn256
    have hlC := fun k hk => stmC_len hok hps hn256 k hk
    have h0l : ([] : List UInt8).length < 2000000000 := by decide
    have hrl := textL_len s.resp
    have p1 := fun W => cq_text [] h0l s.resp hq W
    have p2 := fun W => cq_int ([] ++ textL s.resp) (by rw [List.nil_append]; omega) s.dep hok.dep W
    have p3 := fun W => cq_int ([] ++ textL s.resp ++ putB s.dep) (by have := putB_len s.dep; simp only [List.length_append, List.nil_append]; omega) s.day hok.day W
    have p4 := fun W => cq_int ([] ++ textL s.resp ++ putB s.dep ++ putB s.day) (by have := putB_len s.dep; have := putB_len s.day; simp only [List.length_append, List.nil_append]; omega) (na : Int) ⟨by omega, by omega⟩ W
    have hN0 : [] ++ textL s.resp ++ putB s.dep ++ putB s.day ++ putB (na : Int) = stmA s 0 := by rw [stmA_zero, hna]; simp [headL]
    rw [hN0] at p4
    rw [show bO [] = (⟨#[]⟩ : ByteArray) from rfl] at p1
    have p5 := fun W => cq_text (stmA s s.ans.length) (by have := hlA s.ans.length (Nat.le_refl _); omega) (prnS s.cond) (by omega) W
    have p6 := fun W => cq_int (stmA s s.ans.length ++ textL (prnS s.cond)) (by have := hlA s.ans.length (Nat.le_refl _); have := textL_len (prnS s.cond); simp only [List.length_append]; omega) (ns : Int) ⟨by omega, by omega⟩ W
    have hN1 : stmA s s.ans.length ++ textL (prnS s.cond) ++ putB (ns : Int) = stmC s (prnS s.cond) 0 := by rw [stmC_zero, hns]; rfl
    rw [hN1] at p6
    have pa : ∀ k, k < na → ∃ x1 x2 : ByteArray, (∀ W, Calls Tryz.prog 82 #[.string (bO (stmA s k)), .string (ansAt s.ans k).field] W (StrQ x1 W)) ∧ (∀ W, Calls Tryz.prog 82 #[.string x1, .string (ansAt s.ans k).text] W (StrQ x2 W)) ∧ ∀ W, Calls Tryz.prog 81 #[.string x2, .int .i64 (ansAt s.ans k).num] W (StrQ (bO (stmA s (k + 1))) W) := fun k hk => by
      have hkl : k < s.ans.length := by omega
      obtain ⟨z1, z2, z3⟩ := hok.ans k hkl
      have l1 := hlA k (by omega)
      have l2 := textL_len (ansAt s.ans k).field
      have l3 := textL_len (ansAt s.ans k).text
      rw [stmA_succ hkl]
      exact ⟨_, _, fun W => cq_text _ (by omega) _ z1 W, fun W => cq_text _ (by simp only [List.length_append]; omega) _ z2 W, fun W => cq_int _ (by simp only [List.length_append]; omega) _ z3 W⟩
    have ps : ∀ k, k < ns → ∃ x1 : ByteArray, (∀ W, Calls Tryz.prog 82 #[.string (bO (stmC s (prnS s.cond) k)), .string (shwAt s.shw k).field] W (StrQ x1 W)) ∧ ∀ W, Calls Tryz.prog 82 #[.string x1, .string (shwAt s.shw k).role] W (StrQ (bO (stmC s (prnS s.cond) (k + 1))) W) := fun k hk => by
      have hkl : k < s.shw.length := by omega
      obtain ⟨z1, z2⟩ := hok.shw k hkl
      have l1 := hlC k (by omega)
      have l2 := textL_len (shwAt s.shw k).field
      rw [stmC_succ hkl]
      exact ⟨_, fun W => cq_text _ (by omega) _ z1 W, fun W => cq_text _ (by simp only [List.length_append]; omega) _ z2 W⟩
    have hlz : ∀ k, k ≤ ns → (bO (stmC s (prnS s.cond) k)).size ≤ 1200000000 := fun k hk => by rw [bO_size]; have := hlC k (by omega); have : k * 2000100 ≤ 256 * 2000100 := Nat.mul_le_mul_right _ (by omega); omega
    have hend : stmC s (prnS s.cond) ns = stmW s := by rw [hns]; rfl
    have hae : bO (stmA s s.ans.length) = bO (stmA s na) := by rw [hna]
    rw [hae] at p5
    unfold StrQ at p1 p2 p3 p4 p5 p6 pa ps
    generalize bO ([] ++ textL s.resp) = b1 at *
    generalize bO ([] ++ textL s.resp ++ putB s.dep) = b2 at *
    generalize bO ([] ++ textL s.resp ++ putB s.dep ++ putB s.day) = b3 at *
    generalize bO (stmA s s.ans.length ++ textL (prnS s.cond)) = b5 at *
    have hend2 : bO (stmC s (prnS s.cond) ns) = bO (stmW s) := by rw [hend]
    have hwl : (stmW s).length = (bO (stmC s (prnS s.cond) ns)).size := by rw [bO_size, hend]
    obtain ⟨NA, hNA⟩ : ∃ NA : Nat → ByteArray, ∀ k, bO (stmA s k) = NA k := ⟨_, fun _ => rfl⟩
    obtain ⟨NC, hNC⟩ : ∃ NC : Nat → ByteArray, ∀ k, bO (stmC s (prnS s.cond) k) = NC k := ⟨_, fun _ => rfl⟩
    simp only [hNA] at p4 p5 pa
    simp only [hNC] at p6 ps hlz hend2 hwl
    generalize prnS s.cond = txt at *
    have P1H := Lib.hid p1
    have P2H := Lib.hid p2
    have P3H := Lib.hid p3
    have P4H := Lib.hid p4
    have P5H := Lib.hid p5
    have P6H := Lib.hid p6
    have PAH := Lib.hid pa
    have PSH := Lib.hid ps
    have HLZH := Lib.hid hlz
    have HEND2H := Lib.hid hend2
    have HWLH := Lib.hid hwl
    clear p1 p2 p3 p4 p5 p6 pa ps hlz hend hend2 hwl hNA hNC hN0 hN1 hae hlA hlB hlC h0l hrl hb0 hbk hpr hA hSh hna hns hS hok hv hl hn256 hs256 hps hq
    have HMM := Lib.hid hm
    have hmx1 : ¬ (256 : Int) < max (na : Int) (ns : Int) := by omega
    clear hm
    go_enter Tryz.func56, Tryz.ntmps56
    go_wp2_with fail
    refine (HPR.out _ HB0.out).mono ?_
    rw [HZ.out]
    rintro e w1 ⟨rfl, hb1⟩
    have HB1 : Hid (Below (w.heap.size + 1) (w.alloc (.cells #[.string s.resp, .int .i64 s.dep, .int .i64 s.day, .slice Aa na ca, .slice Ac nc cc, .slice As ns cs] 61)) w1) := Lib.hid (by rw [← hs0]; exact hb1)
    have hs1 := hb1.size
    clear hb1
    obtain ⟨w0, hw0⟩ : ∃ w0, w.alloc (.cells #[.string s.resp, .int .i64 s.dep, .int .i64 s.day, .slice Aa na ca, .slice Ac nc cc, .slice As ns cs] 61) = w0 := ⟨_, rfl⟩
    rw [hw0] at HB0 HBK HB1 hs0 hs1
    try rw [hw0]
    clear hw0
    have bxw1 := HBK.out.below' HB1.out (by omega)
    have yw10 := (bxw1.cell 0).trans (show _ = some (Value.string s.resp) from rfl)
    have yw11 := (bxw1.cell 1).trans (show _ = some (Value.int .i64 s.dep) from rfl)
    have yw12 := (bxw1.cell 2).trans (show _ = some (Value.int .i64 s.day) from rfl)
    have yw13 := (bxw1.cell 3).trans (show _ = some (Value.slice Aa na ca) from rfl)
    have yw15 := (bxw1.cell 5).trans (show _ = some (Value.slice As ns cs) from rfl)
    clear bxw1
    have hx1 : w.heap.size < w1.heap.size := by omega
    have lim6 : ∀ W, Below w1.heap.size w1 W → W.cell? ⟨w.heap.size, 0, none⟩ = some (.string s.resp) ∧ W.cell? ⟨w.heap.size, 1, none⟩ = some (.int .i64 s.dep) ∧ W.cell? ⟨w.heap.size, 2, none⟩ = some (.int .i64 s.day) ∧ Hid (Below w1.heap.size w1 W) := fun W hW => ⟨(hW.cell (p := ⟨w.heap.size, 0, none⟩) hx1).trans yw10, (hW.cell (p := ⟨w.heap.size, 1, none⟩) hx1).trans yw11, (hW.cell (p := ⟨w.heap.size, 2, none⟩) hx1).trans yw12, Lib.hid hW⟩
    have LIM6 := Lib.hid lim6
    have K6_0 : Hid (Below w1.heap.size w1 w1.drew) := Lib.hid (Below.refl _ _).drew
    clear lim6
    go_upto_region 6 with fail
    go_region_held3 (fun W => W.cell? ⟨w.heap.size, 0, none⟩ = some (.string s.resp) ∧ W.cell? ⟨w.heap.size, 1, none⟩ = some (.int .i64 s.dep) ∧ W.cell? ⟨w.heap.size, 2, none⟩ = some (.int .i64 s.day) ∧ Hid (Below w1.heap.size w1 W))
      (first
        | with_reducible exact LIM6.out _ K6_0.out
        | with_reducible exact LIM6.out _ K6_1.out
        | with_reducible exact LIM6.out _ K6_2.out
        | with_reducible exact LIM6.out _ K6_3.out)
      (first
        | (go_at_call 82; ((with_reducible refine (P1H.out _).mono ?_); rintro e w2 ⟨rfl, hb6_1⟩; have K6_1 := Lib.hid (K6_0.out.trans (hb6_1.mono K6_0.out.size)); clear hb6_1))
        | (go_at_call 81; ((with_reducible refine (P2H.out _).mono ?_); rintro e w3 ⟨rfl, hb6_2⟩; have K6_2 := Lib.hid (K6_1.out.trans (hb6_2.mono K6_1.out.size)); clear hb6_2))
        | (go_at_call 81; ((with_reducible refine (P3H.out _).mono ?_); rintro e w4 ⟨rfl, hb6_3⟩; have K6_3 := Lib.hid (K6_2.out.trans (hb6_3.mono K6_2.out.size)); clear hb6_3)))
    all_goals
      have HB4 : Hid (Below (w.heap.size + 1) w0 w4) := Lib.hid (HB1.out.trans (K6_3.out.mono (by omega)))
      have hs4 := K6_3.out.size
      have bxw4 := HBK.out.below' HB4.out (by omega)
      have yw43 := (bxw4.cell 3).trans (show _ = some (Value.slice Aa na ca) from rfl)
      clear bxw4
      go_wp2_with fail
      refine (P4H.out _).mono ?_
      rintro e w5 ⟨rfl, hb5⟩
      have HB5 : Hid (Below (w.heap.size + 1) w0 w5) := Lib.hid (HB4.out.trans (hb5.mono (by omega)))
      have hs5 := hb5.size
      clear hb5
      have bxw5 := HBK.out.below' HB5.out (by omega)
      have yw53 := (bxw5.cell 3).trans (show _ = some (Value.slice Aa na ca) from rfl)
      clear bxw5
      go_wp2_with fail
      clear yw10 yw11 yw12 yw13 yw15 yw43 yw53
      go_loopw [6, 47] (fun v6 v47 wr => ∃ k : Nat, k ≤ na ∧ v47 = .int .i64 (k : Int) ∧ v6 = .string (NA k) ∧ Below (w.heap.size + 1) w0 wr ∧ w5.heap.size ≤ wr.heap.size) (fun _ v47 _ => na - (intOf v47).toNat)
      case atStart => exact ⟨0, by omega, rfl, rfl, HB5.out, Nat.le_refl _⟩
      case round =>
        obtain ⟨k, hk, rfl, rfl, hbr, hsr⟩ := hrel
        have HBR := Lib.hid hbr
        clear hbr
        by_cases hlt : k < na
        · obtain ⟨b, off, rfl, hSb, hcc⟩ := HA.out (by omega)
          obtain ⟨c0, c1, c2⟩ := hcc k hlt
          obtain ⟨x1, x2, r1, r2, r3⟩ := PAH.out k hlt
          have hbw := HS.out b hSb
          have hbl : Below w.heap.size w wr := HB0.out.trans (HBR.out.mono (by omega))
          generalize (ansAt s.ans k).field = fl at *
          generalize (ansAt s.ans k).text = tx at *
          generalize (ansAt s.ans k).num = nu at *
          have e0 : wr.cell? ⟨b, off + k * 3, none⟩ = _ := (hbl.cell (p := ⟨b, off + k * 3, none⟩) hbw).trans c0
          have e1 : wr.cell? ⟨b, off + k * 3 + 1, none⟩ = _ := (hbl.cell (p := ⟨b, off + k * 3 + 1, none⟩) hbw).trans c1
          have e2 : wr.cell? ⟨b, off + k * 3 + 2, none⟩ = _ := (hbl.cell (p := ⟨b, off + k * 3 + 2, none⟩) hbw).trans c2
          have R1H := Lib.hid r1
          have R2H := Lib.hid r2
          have R3H := Lib.hid r3
          have zi : (k : Int) < (na : Int) := by omega
          have z0 : (0 : Int) ≤ (k : Int) := by omega
          have hal := Blk.new wr 106 #[.string fl, .string tx, .int .i64 nu]
          have HBA : Hid (Below (w.heap.size + 1) w0 (wr.alloc (.cells #[.string fl, .string tx, .int .i64 nu] 106))) := Lib.hid (HBR.out.alloc (by omega) _)
          have hsa : (wr.alloc (.cells #[.string fl, .string tx, .int .i64 nu] 106)).heap.size = wr.heap.size + 1 := by simp
          clear c0 c1 c2 r1 r2 r3 hbl hcc
          go_upto_region 11 with fail
          obtain ⟨w6, hw6⟩ : ∃ w6, wr.alloc (.cells #[.string fl, .string tx, .int .i64 nu] 106) = w6 := ⟨_, rfl⟩
          rw [hw6] at hal HBA hsa ⊢
          clear hw6 e0 e1 e2
          obtain ⟨ab, hab⟩ : ∃ ab, wr.heap.size = ab := ⟨_, rfl⟩
          rw [hab] at hal hsa ⊢
          have HAB := Lib.hid hab
          clear hab
          have g0 := (hal.cell 0).trans (show _ = some (Value.string fl) from rfl)
          have g1 := (hal.cell 1).trans (show _ = some (Value.string tx) from rfl)
          have g2 := (hal.cell 2).trans (show _ = some (Value.int .i64 nu) from rfl)
          have hxa : ab < w6.heap.size := by omega
          clear hal
          have lim11 : ∀ W, Below w6.heap.size w6 W → W.cell? ⟨ab, 0, none⟩ = some (.string fl) ∧ W.cell? ⟨ab, 1, none⟩ = some (.string tx) ∧ W.cell? ⟨ab, 2, none⟩ = some (.int .i64 nu) ∧ Hid (Below w6.heap.size w6 W) := fun W hW => ⟨(hW.cell (p := ⟨ab, 0, none⟩) hxa).trans g0, (hW.cell (p := ⟨ab, 1, none⟩) hxa).trans g1, (hW.cell (p := ⟨ab, 2, none⟩) hxa).trans g2, Lib.hid hW⟩
          have LIM11 := Lib.hid lim11
          have K11_0 : Hid (Below w6.heap.size w6 w6.drew) := Lib.hid (Below.refl _ _).drew
          clear lim11
          go_upto_region 11 with fail
          go_region_held3 (fun W => W.cell? ⟨ab, 0, none⟩ = some (.string fl) ∧ W.cell? ⟨ab, 1, none⟩ = some (.string tx) ∧ W.cell? ⟨ab, 2, none⟩ = some (.int .i64 nu) ∧ Hid (Below w6.heap.size w6 W))
            (first
              | with_reducible exact LIM11.out _ K11_0.out
              | with_reducible exact LIM11.out _ K11_1.out
              | with_reducible exact LIM11.out _ K11_2.out
              | with_reducible exact LIM11.out _ K11_3.out)
            (first
              | (go_at_call 82; ((with_reducible refine (R1H.out _).mono ?_); rintro e w7 ⟨rfl, hb11_1⟩; have K11_1 := Lib.hid (K11_0.out.trans (hb11_1.mono K11_0.out.size)); clear hb11_1))
              | (go_at_call 82; ((with_reducible refine (R2H.out _).mono ?_); rintro e w8 ⟨rfl, hb11_2⟩; have K11_2 := Lib.hid (K11_1.out.trans (hb11_2.mono K11_1.out.size)); clear hb11_2))
              | (go_at_call 81; ((with_reducible refine (R3H.out _).mono ?_); rintro e w9 ⟨rfl, hb11_3⟩; have K11_3 := Lib.hid (K11_2.out.trans (hb11_3.mono K11_2.out.size)); clear hb11_3)))
          all_goals
            have HB9 : Hid (Below (w.heap.size + 1) w0 w9) := Lib.hid (HBA.out.trans (K11_3.out.mono (by have := HAB.out; omega)))
            have hs9 := K11_3.out.size
            go_wp2_with fail
            go_roundw
            case measure => simp [intOf]; omega
            case rel => exact ⟨k + 1, by omega, by go_num, rfl, HB9.out, by have := HAB.out; omega⟩
        · have zi : ¬ (k : Int) < (na : Int) := by omega
          have hkn : k = na := by omega
          subst hkn
          have bxwr := HBK.out.below' HBR.out (by omega)
          have ywr5 := (bxwr.cell 5).trans (show _ = some (Value.slice As ns cs) from rfl)
          clear bxwr
          have hx2 : w.heap.size < wr.heap.size := by omega
          have lim13 : ∀ W, Below wr.heap.size wr W → W.cell? ⟨w.heap.size, 5, none⟩ = some (.slice As ns cs) ∧ Hid (Below wr.heap.size wr W) := fun W hW => ⟨(hW.cell (p := ⟨w.heap.size, 5, none⟩) hx2).trans ywr5, Lib.hid hW⟩
          have LIM13 := Lib.hid lim13
          have K13_0 : Hid (Below wr.heap.size wr wr.drew) := Lib.hid (Below.refl _ _).drew
          clear lim13
          go_upto_region 13 with fail
          go_region_held3 (fun W => W.cell? ⟨w.heap.size, 5, none⟩ = some (.slice As ns cs) ∧ Hid (Below wr.heap.size wr W))
            (first
              | with_reducible exact LIM13.out _ K13_0.out
              | with_reducible exact LIM13.out _ K13_1.out
              | with_reducible exact LIM13.out _ K13_2.out)
            (first
              | (go_at_call 82; ((with_reducible refine (P5H.out _).mono ?_); rintro e w11 ⟨rfl, hb13_1⟩; have K13_1 := Lib.hid (K13_0.out.trans (hb13_1.mono K13_0.out.size)); clear hb13_1))
              | (go_at_call 81; ((with_reducible refine (P6H.out _).mono ?_); rintro e w12 ⟨rfl, hb13_2⟩; have K13_2 := Lib.hid (K13_1.out.trans (hb13_2.mono K13_1.out.size)); clear hb13_2)))
          all_goals
            have HB12 : Hid (Below (w.heap.size + 1) w0 w12) := Lib.hid (HBR.out.trans (K13_2.out.mono (by omega)))
            have hs12 := K13_2.out.size
            have bxw12 := HBK.out.below' HB12.out (by omega)
            have yw125 := (bxw12.cell 5).trans (show _ = some (Value.slice As ns cs) from rfl)
            clear bxw12
            go_wp2_with fail
            clear ywr5 yw125
            go_loopw [6, 72] (fun v6 v72 wq => ∃ k2 : Nat, k2 ≤ ns ∧ v72 = .int .i64 (k2 : Int) ∧ v6 = .string (NC k2) ∧ Below (w.heap.size + 1) w0 wq ∧ w12.heap.size ≤ wq.heap.size) (fun _ v72 _ => ns - (intOf v72).toNat)
            case atStart => exact ⟨0, by omega, rfl, rfl, HB12.out, Nat.le_refl _⟩
            case round =>
              rename World => wq
              obtain ⟨k2, hk2, rfl, rfl, hbq, hsq⟩ := hrel
              have HBQ := Lib.hid hbq
              clear hbq
              by_cases hlt2 : k2 < ns
              · obtain ⟨b, off, rfl, hSb, hcc⟩ := HSH.out (by omega)
                obtain ⟨c0, c1⟩ := hcc k2 hlt2
                obtain ⟨x1, r1, r2⟩ := PSH.out k2 hlt2
                have hbw := HS.out b hSb
                have hbl : Below w.heap.size w wq := HB0.out.trans (HBQ.out.mono (by omega))
                generalize (shwAt s.shw k2).field = fl at *
                generalize (shwAt s.shw k2).role = tx at *
                have e0 : wq.cell? ⟨b, off + k2 * 2, none⟩ = _ := (hbl.cell (p := ⟨b, off + k2 * 2, none⟩) hbw).trans c0
                have e1 : wq.cell? ⟨b, off + k2 * 2 + 1, none⟩ = _ := (hbl.cell (p := ⟨b, off + k2 * 2 + 1, none⟩) hbw).trans c1
                have R1H := Lib.hid r1
                have R2H := Lib.hid r2
                have zi2 : (k2 : Int) < (ns : Int) := by omega
                have z02 : (0 : Int) ≤ (k2 : Int) := by omega
                have hal := Blk.new wq 109 #[.string fl, .string tx]
                have HBA : Hid (Below (w.heap.size + 1) w0 (wq.alloc (.cells #[.string fl, .string tx] 109))) := Lib.hid (HBQ.out.alloc (by omega) _)
                have hsa : (wq.alloc (.cells #[.string fl, .string tx] 109)).heap.size = wq.heap.size + 1 := by simp
                clear c0 c1 r1 r2 hbl hcc
                go_upto_region 17 with fail
                obtain ⟨w6, hw6⟩ : ∃ w6, wq.alloc (.cells #[.string fl, .string tx] 109) = w6 := ⟨_, rfl⟩
                rw [hw6] at hal HBA hsa ⊢
                clear hw6 e0 e1
                obtain ⟨ab, hab⟩ : ∃ ab, wq.heap.size = ab := ⟨_, rfl⟩
                rw [hab] at hal hsa ⊢
                have HAB := Lib.hid hab
                clear hab
                have g0 := (hal.cell 0).trans (show _ = some (Value.string fl) from rfl)
                have g1 := (hal.cell 1).trans (show _ = some (Value.string tx) from rfl)
                have hxa : ab < w6.heap.size := by omega
                clear hal
                have lim17 : ∀ W, Below w6.heap.size w6 W → W.cell? ⟨ab, 0, none⟩ = some (.string fl) ∧ W.cell? ⟨ab, 1, none⟩ = some (.string tx) ∧ Hid (Below w6.heap.size w6 W) := fun W hW => ⟨(hW.cell (p := ⟨ab, 0, none⟩) hxa).trans g0, (hW.cell (p := ⟨ab, 1, none⟩) hxa).trans g1, Lib.hid hW⟩
                have LIM17 := Lib.hid lim17
                have K17_0 : Hid (Below w6.heap.size w6 w6.drew) := Lib.hid (Below.refl _ _).drew
                clear lim17
                go_upto_region 17 with fail
                go_region_held3 (fun W => W.cell? ⟨ab, 0, none⟩ = some (.string fl) ∧ W.cell? ⟨ab, 1, none⟩ = some (.string tx) ∧ Hid (Below w6.heap.size w6 W))
                  (first
                    | with_reducible exact LIM17.out _ K17_0.out
                    | with_reducible exact LIM17.out _ K17_1.out
                    | with_reducible exact LIM17.out _ K17_2.out)
                  (first
                    | (go_at_call 82; ((with_reducible refine (R1H.out _).mono ?_); rintro e w7 ⟨rfl, hb17_1⟩; have K17_1 := Lib.hid (K17_0.out.trans (hb17_1.mono K17_0.out.size)); clear hb17_1))
                    | (go_at_call 82; ((with_reducible refine (R2H.out _).mono ?_); rintro e w8 ⟨rfl, hb17_2⟩; have K17_2 := Lib.hid (K17_1.out.trans (hb17_2.mono K17_1.out.size)); clear hb17_2)))
                all_goals
                  have HB9 : Hid (Below (w.heap.size + 1) w0 w8) := Lib.hid (HBA.out.trans (K17_2.out.mono (by have := HAB.out; omega)))
                  have hs9 := K17_2.out.size
                  go_wp2_with fail
                  go_roundw
                  case measure => simp [intOf]; omega
                  case rel => exact ⟨k2 + 1, by omega, by go_num, rfl, HB9.out, by have := HAB.out; omega⟩
              · have zi2 : ¬ (k2 : Int) < (ns : Int) := by omega
                have hkn2 : k2 = ns := by omega
                subst hkn2
                have HBF : Hid (Below w.heap.size w wq) := Lib.hid (HB0.out.trans (HBQ.out.mono (by omega)))
                have hlz := HLZH.out k2 (Nat.le_refl _)
                by_cases hlen : (NC k2).size ≤ 16384
                · have q1 : ¬ (16384 : Int) < ((NC k2).size : Int) := by omega
                  have he := bytS_good HSO.out HMM.out (by rw [HWLH.out]; exact hlen)
                  have HE := Lib.hid he
                  clear he
                  go_wp2_with fail
                  go_ret2
                  exact ⟨by rw [HE.out.1, HE.out.2, ← HEND2H.out]; rfl, HBF.out⟩
                · have q1 : (16384 : Int) < ((NC k2).size : Int) := by omega
                  have he := bytS_long HSO.out HMM.out (by rw [HWLH.out]; exact hlen)
                  have HE := Lib.hid he
                  clear he
                  go_wp2_with fail
                  go_ret2
                  exact ⟨by rw [HE.out.1, HE.out.2]; rfl, HBF.out⟩
end Go.Proofs.YtgeahbmaeaoeeaaGreatDoor
