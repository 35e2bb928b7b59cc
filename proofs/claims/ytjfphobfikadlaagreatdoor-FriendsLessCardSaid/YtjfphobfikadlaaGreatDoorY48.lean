/- The walk of the law: the shares that are left with one holder less explain any other key. What a slice of ints that is read as data gives. -/
import Derived.Test.YtjfphobfikadlaaGreatDoorY39
import Derived.Test.YtjfphobfikadlaaGreatDoorY44
import Derived.Test.YtjfphobfikadlaaGreatDoorY45
import Derived.Test.YtjfphobfikadlaaGreatDoorY47
import Derived.Test.YtjfphobfikadlaaGreatDoorY03
import Derived.ProofKit
import Derived.SizedLaws
set_option linter.unusedVariables false
set_option linter.unusedSimpArgs false
namespace Go.Proofs.YtjfphobfikadlaaGreatDoor
open Go.RowKit Num

theorem packP_in (p : Nat) (l : List UInt8) (hp : p < 256 ∨ 16777216 ≤ p) (h2 : 2 ≤ p) : InF p (packP p l) := by
  unfold packP
  by_cases h : p < 256
  · rw [if_pos h]
    intro i hi
    rw [bitsL_len] at hi
    unfold bitsL
    rw [List.getD_eq_getElem?_getD, List.getElem?_map, List.getElem?_range hi]
    show (0 : Int) ≤ (((l.getD (i / 8) 0).toNat / 2 ^ (7 - i % 8) % 2 : Nat) : Int) ∧ (((l.getD (i / 8) 0).toNat / 2 ^ (7 - i % 8) % 2 : Nat) : Int) < p
    omega
  · rw [if_neg h]; exact pack3_in _ _ (by omega)
theorem r_UnpackP (p : Nat) (v : Value) (s : ByteArray) (S : Nat → Prop) (w : World) (hp : Prm p) (hpp : p < 256 ∨ 16777216 ≤ p) (h2 : p ≤ 1073741824) (hv : IntsAt w S v (packP p s.data.toList)) (hS : ∀ b, S b → b < w.heap.size) (hs : s.size = 16) :
    Calls Tryz.prog 31 #[.int .i64 (p : Int), v, .int .i64 16] w fun e w' => e = .returned (.tuple #[.string s, .int .i64 0]) ∧ Below w.heap.size w w' := by
  have hl : s.data.toList.length = 16 := hs
  have he : (⟨s.data.toList.toArray⟩ : ByteArray) = s := by cases s; simp
  unfold packP at hv
  by_cases h : p < 256
  · rw [if_pos h] at hv
    have := r_Unpack0 p v s.data.toList S w hp h hv hS hl
    rwa [he] at this
  · rw [if_neg h] at hv
    have := r_Unpack3 p v s.data.toList S w hp (by omega) h2 hv hS hl
    rwa [he] at this
theorem PlayP.wide {p : Nat} (h : PlayP p) : p < 256 ∨ 16777216 ≤ p := by
  rcases h with rfl | rfl | rfl | rfl | rfl | rfl <;> decide
theorem ls_q {w W : World} {d B p need hold : Nat} {l e : Value} (h : LsQ w d B p need hold l e W) : LsK w d B p need hold W := h.2.2
/-- friends.Make at a plan of the plays, in the words of this walk. -/
theorem ls_make {w : World} {d B p need hold : Nat} (hw : BasesOk w) (hd : w.heap.size = d) (hpp : PlayP p) (n1 : 1 ≤ need) (n2 : need ≤ hold) (n3 : hold ≤ 5) (W : World) (s : ByteArray) (hs : s.size = 16) (vr : Value) (R : List Int) (T : Nat → Prop) (hK : LsK w d B p need hold W) (hr : IntsAt W T vr R) (hT : ∀ b, T b → b < W.heap.size) (hR : R.length = cntP p * (need - 1) ∧ InF p R) :
    Calls Tryz.prog 21 #[.agg #[.int .i64 (p : Int), .int .i64 (need : Int), .int .i64 (hold : Int)], .string s, vr] W fun e w' => ∃ Am nm cm vl sm, e = .returned (.tuple #[.agg #[.int .i64 (p : Int), .int .i64 (need : Int), .int .i64 (hold : Int), .int .i64 0, .slice Am nm cm, .string sm], vl, .int .i64 0]) ∧ LsS p hold w' (fun b => W.heap.size ≤ b ∧ b < w'.heap.size) vl ∧ LsK w d B p need hold w' ∧ W.grownBy w' (some d) := by
  obtain ⟨k, rfl⟩ : ∃ k, need = k + 1 := ⟨need - 1, by omega⟩
  obtain ⟨hp, h11, h5⟩ := hpp.prm
  have hwW : BasesOk W := hw.below (hd ▸ hK.old)
  have hl : s.data.toList.length = 16 := hs
  have hpl := packP_len p s.data.toList hpp.wide hl
  have hcl := cntP_le p
  refine (f_Make p k hold s (packP p s.data.toList) R vr W hwW hp (by omega) n2 (by omega) (by omega) hs (fun W' hW' => p_PackP p s W' hW' hp hpp.wide (by omega) hs) (hr.mono hT) (packP_in _ _ hpp.wide (by omega)) hR.2 (by omega) (by rw [hpl, hR.1]; rfl)).mono ?_
  rintro e w' ⟨vm, vl, rfl, hvm, hvl, hb⟩
  have hf := FromDealM.deal (p := p) (k := k) (hold := hold) (sec := packP p s.data.toList) (rnd := R) (by omega)
  have hfg := hf.good
  rw [hpl] at hfg
  have hS : LsS p hold w' (fun b => W.heap.size ≤ b ∧ b < w'.heap.size) vl := ⟨_, hvl.at_, hfg, dealt_lenM _ _ _ _ _, fun j hj => by rw [deal_atM _ _ _ _ _ _ hj]; rfl⟩
  obtain ⟨Am, nm, cm, rfl⟩ : ∃ Am nm cm, vm = .slice Am nm cm := by
    rcases hvm.2 with ⟨h, _⟩ | ⟨g, cap, cur, h, _⟩
    · exact ⟨_, _, _, h⟩
    · exact ⟨_, _, _, h⟩
  exact ⟨Am, nm, cm, vl, _, rfl, hS, hK.below hb, only_of_below hb _⟩
theorem LsK.lim {w W : World} {d B p need hold : Nat} (h : LsK w d B p need hold W) : W.cell? ⟨B, 0, none⟩ = some (.int .i64 (p : Int)) ∧ W.cell? ⟨B, 1, none⟩ = some (.int .i64 (need : Int)) ∧ W.cell? ⟨B, 2, none⟩ = some (.int .i64 (hold : Int)) ∧ Hid (LsK w d B p need hold W) :=
  ⟨h.cell0, h.cell1, h.cell2, Lib.hid h⟩
set_option maxRecDepth 100000 in
set_option maxHeartbeats 8000000 in
theorem l_Less (v : Value) (s : ByteArray) (w : World) (hw : BasesOk w) (A : Option Addr) (n c : Nat) (hv : v = .slice A n c) (hn : n ≤ 9223372036854775807) (ha : n ≤ 500 → ArgL w v) (hsz : s.size ≤ 9223372036854775807) :
    Calls Tryz.prog 5 #[v, .string s] w (BoolBelow true w) := by
  subst hv
  have haw := fun (W : World) (hW : Below w.heap.size w W) => f_awake W (hw.below hW)
  unfold BoolBelow at haw
  have HAW := Lib.hid haw
  by_cases h5 : n ≤ 500
  · have t1 : decide ((n : Int) ≤ 500) = true := decide_eq_true (by omega)
    by_cases h16 : s.size = 16
    · have t2 : ((s.size : Int) != 16) = false := by simp; omega
      have ha := ha h5
      have HW := Lib.hid hw
      have HA := Lib.hid ha
      have H16 := Lib.hid h16
      have hs16 : (s.size : Int) = 16 := by omega
      clear hw ha haw h16
      go_enter Tryz.func5, Tryz.ntmps5
      go_wp2_with fail
      refine (k_Light A n c _ hn).mono ?_
      rintro e w' ⟨rfl, rfl⟩
      go_wp2_with fail
      refine (k_Roll _ _ HA.out).mono ?_
      rintro e w1 ⟨rfl, hd1, hb1⟩
      have hlt1 := hd1.lt
      obtain ⟨d, hd⟩ : ∃ d, w.heap.size = d := ⟨_, rfl⟩
      rw [hd] at hd1 hb1 hlt1 ⊢
      have HD := Lib.hid hd
      have HD1 := Lib.hid hd1
      have HB1 := Lib.hid hb1
      clear hd hd1 hb1 HA
      go_wp2_with fail
      refine (y_Safe d _ HD1.out).mono ?_
      rintro e w2 ⟨p, hpp, rfl, hd2, hg2⟩
      have hb2 : Below d w w2 := HB1.out.grown hg2 (by omega) (fun g hg => by injection hg with hg; omega)
      obtain ⟨-, h11, hp5⟩ := hpp.prm
      have HPP := Lib.hid hpp
      have HB2 := Lib.hid hb2
      have HD2 := Lib.hid hd2
      have hlt2 := hd2.lt
      clear hpp hb2 hd2 hg2 HD1 HB1
      go_wp2_with fail
      have hpl : Calls Tryz.prog 18 #[.pointer (some ⟨d, 0, none⟩), .int .i64 (p : Int)] w2 (fun e w' => ∃ need hold : Nat, 1 ≤ need ∧ need ≤ hold ∧ hold ≤ 5 ∧ need ≤ 3 ∧ e = .returned (.agg #[.int .i64 (p : Int), .int .i64 (need : Int), .int .i64 (hold : Int)]) ∧ Dc w' d ∧ w2.grownBy w' (some d)) := y_Plan d p w2 HD2.out (by omega)
      refine hpl.mono ?_
      rintro e w3 ⟨need, hold, n1, n2, n3, n4, rfl, hd3, hg3⟩
      have hb3 : Below d w w3 := HB2.out.grown hg3 (by omega) (fun g hg => by injection hg with hg; omega)
      have hlt3 := hd3.lt
      have hk0 : LsK w d w3.heap.size p need hold (w3.alloc (.cells #[.int .i64 (p : Int), .int .i64 (need : Int), .int .i64 (hold : Int)] 34)) := ⟨hd3.alloc _, Blk.new w3 _ _, hb3.alloc (by omega) _, hlt3⟩
      have HK0 := Lib.hid hk0
      clear hd3 hg3 hb3 hpl HD2 HB2 hk0
      go_upto_region 5 with fail
      generalize (w3.alloc (.cells #[.int .i64 (p : Int), .int .i64 (need : Int), .int .i64 (hold : Int)] 34)) = w0 at *
      generalize w3.heap.size = B at *
      have H0 := HK0
      have hNle : cntP p * (need - 1) ≤ 2048 * 4 := Nat.mul_le_mul (by have := cntP_le p; omega) (by omega)
      have hmk := fun W sa hs vr R T => ls_make (w := w) (d := d) (B := B) HW.out HD.out HPP.out n1 n2 n3 W sa hs vr R T
      have hnd0 := fun W => f_Needs p need hold W (by omega) n1 (by omega)
      obtain ⟨N, hN⟩ : ∃ N, cntP p * (need - 1) = N := ⟨_, rfl⟩
      rw [hN] at hmk hnd0 hNle
      have hsa : ∀ W, LsK w d B p need hold W → Calls Tryz.prog 20 #[.pointer (some ⟨d, 0, none⟩)] W (fun e w' => ∃ s0 : ByteArray, s0.size = 16 ∧ e = .returned (.string s0) ∧ LsK w d B p need hold w' ∧ W.grownBy w' (some d)) := fun W hW => (k_Salt d W hW.dice).mono fun e w' ⟨s0, h1, h2, h3, h4⟩ => ⟨s0, h1, h2, hW.grown h4 h3, h4⟩
      have hnx : ∀ W, LsK w d B p need hold W → Calls Tryz.prog 23 #[.pointer (some ⟨d, 0, none⟩), .int .i64 1000] W (fun e w' => ∃ r : Nat, e = .returned (.int .i64 (r : Int)) ∧ LsK w d B p need hold w' ∧ W.grownBy w' (some d)) := fun W hW => (k_Next d 1000 W hW.dice (by decide) (by decide)).mono fun e w' ⟨r, _, h2, h3, h4⟩ => ⟨r, h2, hW.grown h4 h3, h4⟩
      have hnd : ∀ W, LsK w d B p need hold W → Calls Tryz.prog 24 #[.agg #[.int .i64 (p : Int), .int .i64 (need : Int), .int .i64 (hold : Int)]] W (fun e w' => e = .returned (.int .i64 (N : Int)) ∧ LsK w d B p need hold w' ∧ W.grownBy w' (some d)) := fun W hW => (hnd0 W).mono fun e w' ⟨h1, h2⟩ => ⟨h1, hW.below h2, only_of_below h2 _⟩
      have hfl : ∀ W (r : Nat), LsK w d B p need hold W → Calls Tryz.prog 22 #[.int .i64 (p : Int), .int .i64 (r : Int), .int .i64 (N : Int)] W (fun e w' => ∃ vr R, e = .returned vr ∧ IntsAt w' (fun b => W.heap.size ≤ b ∧ b < w'.heap.size) vr R ∧ (R.length = N ∧ InF p R) ∧ LsK w d B p need hold w' ∧ W.grownBy w' (some d)) := fun W r hW => (y_Fill p N (r : Int) W (by omega) (by omega) (by omega)).mono fun e w' ⟨vr, h1, h2, h3⟩ => ⟨vr, _, h1, h2, ⟨fillL_len _ _ _, fillL_in _ _ _ (by omega)⟩, hW.below h3, only_of_below h3 _⟩
      have HSA := Lib.hid hsa
      have HNX := Lib.hid hnx
      have HND := Lib.hid hnd
      have HFL := Lib.hid hfl
      have HMK := Lib.hid hmk
      have c00 := H0.out.cell0
      have c01 := H0.out.cell1
      have c02 := H0.out.cell2
      have x00 : ∀ o : Obj, (w0.alloc o).cell? ⟨B, 0, none⟩ = some (.int .i64 (p : Int)) := fun o => (H0.out.alloc o).cell0
      have x01 : ∀ o : Obj, (w0.alloc o).cell? ⟨B, 1, none⟩ = some (.int .i64 (need : Int)) := fun o => (H0.out.alloc o).cell1
      have x02 : ∀ o : Obj, (w0.alloc o).cell? ⟨B, 2, none⟩ = some (.int .i64 (hold : Int)) := fun o => (H0.out.alloc o).cell2
      have y00 : ∀ o : Obj, (w0.alloc o).drew.cell? ⟨B, 0, none⟩ = some (.int .i64 (p : Int)) := fun o => (H0.out.alloc o).cell0
      have y01 : ∀ o : Obj, (w0.alloc o).drew.cell? ⟨B, 1, none⟩ = some (.int .i64 (need : Int)) := fun o => (H0.out.alloc o).cell1
      have y02 : ∀ o : Obj, (w0.alloc o).drew.cell? ⟨B, 2, none⟩ = some (.int .i64 (hold : Int)) := fun o => (H0.out.alloc o).cell2
      have HF := Lib.hid (show 1 ≤ need ∧ need ≤ hold ∧ hold ≤ 5 ∧ need ≤ 3 ∧ 11 ≤ p ∧ p ≤ 500000003 from ⟨n1, n2, n3, n4, h11, hp5⟩)
      clear hsa hnx hnd hfl hmk hnd0 hN HK0 hlt1 hlt2 hlt3 n1 n2 n3 n4
      go_cut [7, 8, 9] from 34 to 48 (fun c l e wx => LsQ w d B p need hold l e wx)
      case first =>
        go_region_held3 (fun W => W.cell? ⟨B, 0, none⟩ = some (.int .i64 (p : Int)) ∧ W.cell? ⟨B, 1, none⟩ = some (.int .i64 (need : Int)) ∧ W.cell? ⟨B, 2, none⟩ = some (.int .i64 (hold : Int)) ∧ Hid (LsK w d B p need hold W))
          (first
            | with_reducible exact H0.out.drew.lim
            | with_reducible exact H1.out.lim
            | with_reducible exact H2.out.lim
            | with_reducible exact H3.out.lim
            | with_reducible exact H4.out.lim
            | with_reducible exact H5.out.lim
            | with_reducible exact (H0.out.alloc _).lim
            | with_reducible exact (H0.out.alloc _).drew.lim
            | with_reducible exact (H0.out.drew.alloc _).lim
            | with_reducible exact (H1.out.alloc _).lim
            | with_reducible exact (H1.out.alloc _).drew.lim
            | with_reducible exact (H1.out.drew.alloc _).lim
            | with_reducible exact (H2.out.alloc _).lim
            | with_reducible exact (H2.out.alloc _).drew.lim
            | with_reducible exact (H2.out.drew.alloc _).lim
            | with_reducible exact (H3.out.alloc _).lim
            | with_reducible exact (H3.out.alloc _).drew.lim
            | with_reducible exact (H3.out.drew.alloc _).lim
            | with_reducible exact (H4.out.alloc _).lim
            | with_reducible exact (H4.out.alloc _).drew.lim
            | with_reducible exact (H4.out.drew.alloc _).lim
            | with_reducible exact (H5.out.alloc _).lim
            | with_reducible exact (H5.out.alloc _).drew.lim
            | with_reducible exact (H5.out.drew.alloc _).lim
            | with_reducible exact (ls_q (ls_second H5.out kc5 (by first | exact ⟨_, H0.out, rfl⟩ | exact ⟨_, H0.out.drew, rfl⟩ | exact ⟨_, H1.out, rfl⟩ | exact ⟨_, H2.out, rfl⟩ | exact ⟨_, H3.out, rfl⟩ | exact ⟨_, H4.out, rfl⟩) HSH.out (fun b hb => ⟨hb.2, by have h1 := hb.1; first | (have h2 := kc4.lt; omega) | (simp at h1; omega)⟩) _ _ _ _ _ _)).lim)
          (first
            | (go_at_call 20; ((with_reducible refine (HSA.out _ (by first | exact H0.out | exact H0.out.drew | exact H0.out.alloc _ | exact (H0.out.alloc _).drew | exact (H0.out.drew).alloc _)).mono ?_); rintro e w1 ⟨sa, hs, rfl, hK, hG⟩; have H1 : Hid (LsK w d B p need hold w1) := Lib.hid hK; have HS := Lib.hid hs; clear hs; (try (have kc1 : Blk w1 w0.heap.size 40 #[.int .i64 0, .int .i64 0, .int .i64 0, .int .i64 0, .slice none 0 0, .string ⟨#[]⟩] := (by first | exact (Blk.new w0 40 #[.int .i64 0, .int .i64 0, .int .i64 0, .int .i64 0, .slice none 0 0, .string ⟨#[]⟩]).grown hG H0.out.ne_d | exact (Blk.new w0 40 #[.int .i64 0, .int .i64 0, .int .i64 0, .int .i64 0, .slice none 0 0, .string ⟨#[]⟩]).drew.grown hG H0.out.ne_d | exact (Blk.new w0.drew 40 #[.int .i64 0, .int .i64 0, .int .i64 0, .int .i64 0, .slice none 0 0, .string ⟨#[]⟩]).grown hG H0.out.ne_d))); clear hK hG))
            | (go_at_call 23; ((with_reducible refine (HNX.out _ (by first | exact H1.out | exact H1.out.drew | exact H1.out.alloc _ | exact (H1.out.alloc _).drew | exact (H1.out.drew).alloc _)).mono ?_); rintro e w2 ⟨r, rfl, hK, hG⟩; have H2 : Hid (LsK w d B p need hold w2) := Lib.hid hK; (try (have kc2 : Blk w2 w1.heap.size 40 #[.int .i64 0, .int .i64 0, .int .i64 0, .int .i64 0, .slice none 0 0, .string ⟨#[]⟩] := (by first | exact (Blk.new w1 40 #[.int .i64 0, .int .i64 0, .int .i64 0, .int .i64 0, .slice none 0 0, .string ⟨#[]⟩]).grown hG H1.out.ne_d | exact (Blk.new w1 40 #[.int .i64 0, .int .i64 0, .int .i64 0, .int .i64 0, .slice none 0 0, .string ⟨#[]⟩]).drew.grown hG H1.out.ne_d | exact (Blk.new w1.drew 40 #[.int .i64 0, .int .i64 0, .int .i64 0, .int .i64 0, .slice none 0 0, .string ⟨#[]⟩]).grown hG H1.out.ne_d))); (try (have kc2 := kc1.grown hG (by first | exact H0.out.ne_d | exact H1.out.ne_d))); clear hK hG))
            | (go_at_call 24; ((with_reducible refine (HND.out _ (by first | exact H2.out | exact H2.out.drew | exact H2.out.alloc _ | exact (H2.out.alloc _).drew | exact (H2.out.drew).alloc _)).mono ?_); rintro e w3 ⟨rfl, hK, hG⟩; have H3 : Hid (LsK w d B p need hold w3) := Lib.hid hK; (try (have kc3 : Blk w3 w2.heap.size 40 #[.int .i64 0, .int .i64 0, .int .i64 0, .int .i64 0, .slice none 0 0, .string ⟨#[]⟩] := (by first | exact (Blk.new w2 40 #[.int .i64 0, .int .i64 0, .int .i64 0, .int .i64 0, .slice none 0 0, .string ⟨#[]⟩]).grown hG H2.out.ne_d | exact (Blk.new w2 40 #[.int .i64 0, .int .i64 0, .int .i64 0, .int .i64 0, .slice none 0 0, .string ⟨#[]⟩]).drew.grown hG H2.out.ne_d | exact (Blk.new w2.drew 40 #[.int .i64 0, .int .i64 0, .int .i64 0, .int .i64 0, .slice none 0 0, .string ⟨#[]⟩]).grown hG H2.out.ne_d))); (try (have kc3 := kc2.grown hG (by first | exact H0.out.ne_d | exact H1.out.ne_d | exact H2.out.ne_d))); clear hK hG))
            | (go_at_call 22; ((with_reducible refine (HFL.out _ r (by first | exact H3.out | exact H3.out.drew | exact H3.out.alloc _ | exact (H3.out.alloc _).drew | exact (H3.out.drew).alloc _)).mono ?_); rintro e w4 ⟨vr, R, rfl, hvr, hR, hK, hG⟩; have H4 : Hid (LsK w d B p need hold w4) := Lib.hid hK; have HM4 := Lib.hid (fun (W : World) (hKW : LsK w d B p need hold W) (hb : Below w4.heap.size w4 W) => HMK.out W sa HS.out vr R _ hKW (hvr.keep fun b hb2 => hb.block b hb2.2) (fun b hb2 => Nat.lt_of_lt_of_le hb2.2 hb.size) hR); clear hvr hR; (try (have kc4 : Blk w4 w3.heap.size 40 #[.int .i64 0, .int .i64 0, .int .i64 0, .int .i64 0, .slice none 0 0, .string ⟨#[]⟩] := (by first | exact (Blk.new w3 40 #[.int .i64 0, .int .i64 0, .int .i64 0, .int .i64 0, .slice none 0 0, .string ⟨#[]⟩]).grown hG H3.out.ne_d | exact (Blk.new w3 40 #[.int .i64 0, .int .i64 0, .int .i64 0, .int .i64 0, .slice none 0 0, .string ⟨#[]⟩]).drew.grown hG H3.out.ne_d | exact (Blk.new w3.drew 40 #[.int .i64 0, .int .i64 0, .int .i64 0, .int .i64 0, .slice none 0 0, .string ⟨#[]⟩]).grown hG H3.out.ne_d))); (try (have kc4 := kc3.grown hG (by first | exact H0.out.ne_d | exact H1.out.ne_d | exact H2.out.ne_d | exact H3.out.ne_d))); clear hK hG))
            | (go_at_call 21; ((with_reducible refine (HM4.out _ (by first | exact H4.out | exact H4.out.drew | exact H4.out.alloc _ | exact (H4.out.alloc _).drew | exact (H4.out.drew).alloc _) (by first | exact Below.refl _ _ | exact (Below.refl _ _).drew | exact (Below.refl _ _).alloc (Nat.le_refl _) _ | exact ((Below.refl _ _).alloc (Nat.le_refl _) _).drew)).mono ?_); rintro e w5 ⟨Am, nm, cm, vl, sm, rfl, hsh, hK, hG⟩; have H5 : Hid (LsK w d B p need hold w5) := Lib.hid hK; have HSH := Lib.hid hsh; clear hsh; (try (have kc5 : Blk w5 w4.heap.size 40 #[.int .i64 0, .int .i64 0, .int .i64 0, .int .i64 0, .slice none 0 0, .string ⟨#[]⟩] := (by first | exact (Blk.new w4 40 #[.int .i64 0, .int .i64 0, .int .i64 0, .int .i64 0, .slice none 0 0, .string ⟨#[]⟩]).grown hG H4.out.ne_d | exact (Blk.new w4 40 #[.int .i64 0, .int .i64 0, .int .i64 0, .int .i64 0, .slice none 0 0, .string ⟨#[]⟩]).drew.grown hG H4.out.ne_d | exact (Blk.new w4.drew 40 #[.int .i64 0, .int .i64 0, .int .i64 0, .int .i64 0, .slice none 0 0, .string ⟨#[]⟩]).grown hG H4.out.ne_d))); (try (have kc5 := kc4.grown hG (by first | exact H0.out.ne_d | exact H1.out.ne_d | exact H2.out.ne_d | exact H3.out.ne_d | exact H4.out.ne_d))); (try (have d0 := (kc5.cell 0).trans (show _ = some (Value.int .i64 0) from rfl))); (try (have fz0 := kc5.frozen 0)); (try (have d1 := (kc5.cell 1).trans (show _ = some (Value.int .i64 0) from rfl))); (try (have fz1 := kc5.frozen 1)); (try (have d2 := (kc5.cell 2).trans (show _ = some (Value.int .i64 0) from rfl))); (try (have fz2 := kc5.frozen 2)); (try (have d3 := (kc5.cell 3).trans (show _ = some (Value.int .i64 0) from rfl))); (try (have fz3 := kc5.frozen 3)); (try (have d4 := (kc5.cell 4).trans (show _ = some (Value.slice none 0 0) from rfl))); (try (have fz4 := kc5.frozen 4)); (try (have d5 := (kc5.cell 5).trans (show _ = some (Value.string ⟨#[]⟩) from rfl))); (try (have fz5 := kc5.frozen 5)); clear hK hG)))
        all_goals
          go_wp2_with fail
          go_meet
          first
            | with_reducible exact ls_second H5.out kc5 (by first | exact ⟨_, H0.out, rfl⟩ | exact ⟨_, H0.out.drew, rfl⟩ | exact ⟨_, H1.out, rfl⟩ | exact ⟨_, H2.out, rfl⟩ | exact ⟨_, H3.out, rfl⟩ | exact ⟨_, H4.out, rfl⟩) HSH.out (fun b hb => ⟨hb.2, by have h1 := hb.1; first | (have h2 := kc4.lt; omega) | (simp at h1; omega)⟩) _ _ _ _ _ _
            | with_reducible exact ls_first H5.out HSH.out (fun b hb => hb.2) _
      case rest =>
        obtain ⟨rfl, ⟨L, hv, hgd, hlen, hhs⟩, hk⟩ := hcut
        obtain ⟨i0, hi, hz0, hz1, hz2⟩ := info_parts infoS
        obtain ⟨A2, n2, c2, rfl, hn2, hnc2, -⟩ := id hv
        have hnh : n2 = hold := by omega
        subst hnh
        have hL1 := hlen
        obtain ⟨n1, n2', n3, n4, -, -⟩ := HF.out
        obtain ⟨k, hkn⟩ : ∃ k, need = k + 1 := ⟨need - 1, by omega⟩
        have hwr : IntKind.i64.wrap ((need : Int) - 1) = (k : Int) := by rw [show (need : Int) - 1 = (k : Int) by omega]; exact IntWalk.i64_in _ ⟨by omega, by omega⟩
        have tne : ((n2 : Int) != (n2 : Int)) = false := by simp
        have hkc : k ≤ c2 := by omega
        have hsl := fun (W : World) => run_slice_hi (P := Tryz.prog) W 41 49 i0 Tryz.underlying41 hi A2 n2 c2 k hkc (k : Int) rfl
        have hK0 : ShAt wc (fun z => z < wc.heap.size) (.slice A2 k c2) (L.take k) := hv.take (by omega)
        have hlk : (L.take k).length = k := by rw [List.length_take]; omega
        have hgk : GoodSh p n2 (cntP p) (L.take k) := hgd.take k
        have hhk : ∀ j, j < (L.take k).length → (shAt (L.take k) j).1 = (j : Int) + 1 := fun j hj => by
          have e : shAt (L.take k) j = shAt L j := by
            unfold shAt
            rw [List.getD_eq_getElem?_getD, List.getElem?_take, if_pos (by omega), ← List.getD_eq_getElem?_getD]
          rw [e]; exact hhs j (by omega)
        obtain ⟨hp, h11, hp5⟩ := HPP.out.prm
        have hwide := HPP.out.wide
        have hl16 : s.data.toList.length = 16 := H16.out
        obtain ⟨sec, hsec⟩ : ∃ sec, packP p s.data.toList = sec := ⟨_, rfl⟩
        have hpkl : sec.length = cntP p := by rw [← hsec]; exact packP_len p _ hwide hl16
        have hpin : InF p sec := by rw [← hsec]; exact packP_in p _ hwide (by omega)
        have hcl := cntP_le p
        generalize L.take k = K at *
        have hgks : GoodSh p n2 sec.length K := by rw [hpkl]; exact hgk
        have e1 : combL p need (explL p n2 K sec) sec.length = sec := expl_comb hp (by omega) n2' (by omega) hgks hpin
        have e2 : (explL p n2 K sec).take K.length = K := expl_take hp (by omega) n2' (by omega) hgks hhk
        have e3 : GoodSh p n2 sec.length (explL p n2 K sec) := expl_good (by omega)
        have hpk : ∀ W, Calls Tryz.prog 28 #[.int .i64 (p : Int), .string s] W (IntsPost2 sec W) := fun W => by
          have := r_Pack p s W hp hwide (by omega) H16.out
          rwa [hsec] at this
        have hex := fun W (hW : Below wc.heap.size wc W) vs T (hs : IntsAt W T vs sec) hT => r_ExplainA p need n2 (cntP p) (.slice A2 k c2) vs K sec (fun z => z < wc.heap.size) T W hp (by omega) n1 n2' (by omega) (by omega) (hK0.keep fun z hz => hW.block z hz) (fun b hb => Nat.lt_of_lt_of_le hb hW.size) hs hT (by omega) hpkl (by omega) hgk hpin
        have hco := fun W v S (hv2 : ShAt W S v (explL p n2 K sec)) hS => r_CombineA p need n2 sec.length v (explL p n2 K sec) S W hp (by omega) n1 n2' (by omega) (by omega) hv2 hS (by rw [explL_len]; exact n2') (by rw [explL_len]; omega) (by omega) e3
        have hup := fun W v S (hv2 : IntsAt W S v sec) hS => r_UnpackP p v s S W hp hwide (by omega) (by rw [hsec]; exact hv2) hS H16.out
        have hsm := fun W (hW : Below wc.heap.size wc W) v S (hv2 : ShAt W S v K) hS => r_SameSh v (.slice A2 k c2) K S (fun z => z < wc.heap.size) W hv2 (hK0.keep fun z hz => hW.block z hz) hS (fun b hb => Nat.lt_of_lt_of_le hb hW.size) (by omega) (fun j hj => by rw [hgks.len j hj]; omega)
        unfold planV at hex hco
        rw [e1] at hco
        have HPK := Lib.hid hpk
        have HEX := Lib.hid hex
        have HCO := Lib.hid hco
        have HUP := Lib.hid hup
        have HSM := Lib.hid hsm
        have E2 := Lib.hid e2
        have HLK := Lib.hid hlk
        have HKN := Lib.hid hkn
        have hc0 := hk.cell0
        have hc1 := hk.cell1
        have hc2 := hk.cell2
        have HKW := Lib.hid hk
        have hBs := hk.plan.lt
        have HT := Lib.hid (show n2 ≤ 5 ∧ k ≤ n2 by omega)
        clear hlk hkn hpk hex hco hup hsm e1 e2 e3 hgks hK0 hgk hhk hv hgd hlen hhs hn2 hnc2 hL1 hpkl hpin hsec hcl hl16 hk HSA HNX HND HFL HMK c00 c01 c02 x00 x01 x02 y00 y01 y02 n1 n2' n3 n4
        go_wp2_with fail
        refine (HPK.out _).mono ?_
        rintro e wa ⟨vs, rfl, hvs, hba⟩
        obtain ⟨As, ns, cs, rfl, -⟩ := id hvs
        have a0 := (hba.cell (p := ⟨B, 0, none⟩) hBs).trans hc0
        have a1 := (hba.cell (p := ⟨B, 1, none⟩) hBs).trans hc1
        have a2 := (hba.cell (p := ⟨B, 2, none⟩) hBs).trans hc2
        have HVS := Lib.hid hvs
        have HBA := Lib.hid hba
        clear hc0 hc1 hc2 hvs hba
        go_wp2_with fail
        refine (HEX.out _ HBA.out _ _ HVS.out (fun b hb => hb.2)).mono ?_
        rintro e wb ⟨v3, rfl, hv3, hbb⟩
        obtain ⟨A3, n3, c3, rfl, hn3, hnc3, -⟩ := id hv3
        have hn3' : n3 = n2 := by rw [hn3, explL_len]
        subst hn3'
        have hsl3 := fun (W : World) => run_slice_hi (P := Tryz.prog) W 41 49 i0 Tryz.underlying41 hi A3 n3 c3 k (by have := HT.out; omega) (k : Int) rfl
        have hT3 : ShAt wb (fun z => wa.heap.size ≤ z ∧ z < wb.heap.size) (.slice A3 k c3) K := by
          have := hv3.take (m := k) HT.out.2
          rw [show k = K.length from HLK.out.symm, E2.out] at this
          rwa [show k = K.length from HLK.out.symm]
        have hbB := HBA.out.trans (hbb.mono HBA.out.size)
        have b0 := (hbb.cell (p := ⟨B, 0, none⟩) (World.block_lt_of_cell? _ _ a0)).trans a0
        have b1 := (hbb.cell (p := ⟨B, 1, none⟩) (World.block_lt_of_cell? _ _ a1)).trans a1
        have b2 := (hbb.cell (p := ⟨B, 2, none⟩) (World.block_lt_of_cell? _ _ a2)).trans a2
        have HV3 := Lib.hid hv3
        have HT3 := Lib.hid hT3
        have HBB := Lib.hid hbB
        clear a0 a1 a2 hv3 hT3 hbB hbb hn3 hnc3
        go_wp2_with fail
        refine (HCO.out _ _ _ HV3.out (fun b hb => hb.2)).mono ?_
        rintro e wd ⟨v4, rfl, hv4, hbd⟩
        obtain ⟨A4, n4, c4, rfl, -⟩ := id hv4
        have hbD := HBB.out.trans (hbd.mono HBB.out.size)
        have d0 := (hbd.cell (p := ⟨B, 0, none⟩) (World.block_lt_of_cell? _ _ b0)).trans b0
        have d1 := (hbd.cell (p := ⟨B, 1, none⟩) (World.block_lt_of_cell? _ _ b1)).trans b1
        have hT4 : ShAt wd (fun z => wa.heap.size ≤ z ∧ z < wd.heap.size) (.slice A3 k c3) K := (HT3.out.keep fun z hz => hbd.block z hz.2).mono fun z hz => ⟨hz.1, Nat.lt_of_lt_of_le hz.2 hbd.size⟩
        have HV4 := Lib.hid hv4
        have HBD := Lib.hid hbD
        have HT4 := Lib.hid hT4
        clear b0 b1 b2 hv4 hT4 hbD hbd HT3 HV3
        go_wp2_with fail
        refine (HUP.out _ _ _ HV4.out (fun b hb => hb.2)).mono ?_
        rintro e we ⟨rfl, hbe⟩
        have hbE := HBD.out.trans (hbe.mono HBD.out.size)
        have e1 := (hbe.cell (p := ⟨B, 1, none⟩) (World.block_lt_of_cell? _ _ d1)).trans d1
        have hT5 : ShAt we (fun z => wa.heap.size ≤ z ∧ z < we.heap.size) (.slice A3 k c3) K := (HT4.out.keep fun z hz => hbe.block z hz.2).mono fun z hz => ⟨hz.1, Nat.lt_of_lt_of_le hz.2 hbe.size⟩
        have hwe : Below w.heap.size w we := by
          have h1 := HKW.out.old
          have h2 := HKW.out.dice.lt
          rw [HD.out]
          exact h1.trans (hbE.mono (Nat.le_of_lt h2))
        have HBE := Lib.hid hbE
        have HT5 := Lib.hid hT5
        have HWE := Lib.hid hwe
        clear d0 d1 hT5 hbE hbe hwe HT4 HV4
        go_wp2_with fail
        refine (HAW.out _ HWE.out).mono ?_
        rintro e wf ⟨rfl, hbf⟩
        have f1 := (hbf.cell (p := ⟨B, 1, none⟩) (World.block_lt_of_cell? _ _ e1)).trans e1
        have hbF := HBE.out.trans (hbf.mono HBE.out.size)
        have hT6 : ShAt wf (fun z => wa.heap.size ≤ z ∧ z < wf.heap.size) (.slice A3 k c3) K := (HT5.out.keep fun z hz => hbf.block z hz.2).mono fun z hz => ⟨hz.1, Nat.lt_of_lt_of_le hz.2 hbf.size⟩
        have hwf := HWE.out.trans (hbf.mono HWE.out.size)
        have HBF := Lib.hid hbF
        have HT6 := Lib.hid hT6
        have HWF := Lib.hid hwf
        clear e1 hT6 hbF hbf hwf HT5
        go_wp2_with fail
        refine (HSM.out _ HBF.out _ _ HT6.out (fun b hb => hb.2)).mono ?_
        rintro e wg ⟨rfl, hbg⟩
        have hwg := HWF.out.trans (hbg.mono HWF.out.size)
        clear f1
        go_wp2_with fail
        go_ret
        exact ⟨rfl, hwg⟩
    · have t2 : ((s.size : Int) != 16) = true := by simp; omega
      have ha := ha h5
      have HW := Lib.hid hw
      clear hw ha haw
      go_enter Tryz.func5, Tryz.ntmps5
      go_wp2_with fail
      refine (k_Light A n c _ hn).mono ?_
      rintro e w' ⟨rfl, rfl⟩
      go_wp2_with fail
      refine (HAW.out _ (Below.refl _ _)).mono ?_
      rintro e w2 ⟨rfl, hb2⟩
      go_wp2_with fail
      go_ret
      exact ⟨rfl, hb2⟩
  · have t1 : decide ((n : Int) ≤ 500) = false := decide_eq_false (by omega)
    have HW := Lib.hid hw
    clear hw haw
    go_enter Tryz.func5, Tryz.ntmps5
    go_wp2_with fail
    refine (k_Light A n c _ hn).mono ?_
    rintro e w' ⟨rfl, rfl⟩
    go_wp2_with fail
    refine (HAW.out _ (Below.refl _ _)).mono ?_
    rintro e w2 ⟨rfl, hb2⟩
    go_wp2_with fail
    go_ret
    exact ⟨rfl, hb2⟩
end Go.Proofs.YtjfphobfikadlaaGreatDoor
namespace Go.Proofs.YtjfphobfikadlaaGreatDoor
open Go.ChangeShapes Go.WideShapes Go.ChangeAt Go.RowKit

theorem ints_fact {H : Type} {enc : TypeId × Value → H} {W : World} {t e : TypeId} {a : Option Addr} {n c : Nat} {d : DataW H} {p : List MemPlace} (ht : Tryz.prog.underlying t = some (.slice e)) (he : Tryz.prog.underlying e = some (.int .i64)) (hc : Tryz.prog.cellsOf e = 1)
    (h : DataW.Trod enc Tryz.prog W 0 (fun _ => true) true t (.slice a n c) d p) (hlt : ∀ x ∈ p, x.block < W.heap.size) :
    n ≤ 9223372036854775807 ∧ (n ≤ 500 → ArgL W (.slice a n c)) := by
  obtain ⟨fu, hf⟩ := h
  rcases open_ints ht he hc hf with ⟨hcs, hx⟩ | ⟨b, len', cap', zs, hcs, _, hl, hm, hz, hx, hcell, hwz⟩
  · simp [Value.cells] at hcs
    obtain ⟨rfl, rfl, rfl⟩ := hcs
    exact ⟨by omega, fun _ => ⟨none, 0, 0, fun _ => 0, rfl, by omega, fun h => absurd h (by omega)⟩⟩
  · simp [Value.cells] at hcs
    obtain ⟨rfl, rfl, rfl⟩ := hcs
    simp only [Prod.mk.injEq] at hx
    obtain ⟨rfl, rfl⟩ := hx
    simp only [if_true] at hz
    unfold maxLen at hm
    refine ⟨by omega, fun h5 => ⟨some b, n, c, fun i => zs.getD i 0, rfl, h5, fun hn => ?_⟩⟩
    obtain ⟨b0, off, spot⟩ := b
    have hspot : spot = none := by simpa [Addr.add] using World.cell?_spot (hcell 0 (by omega))
    subst hspot
    refine ⟨b0, off, rfl, hlt (.cell b0 off) (MemPlace.mem_row.2 ⟨0, by omega, by simp⟩), fun i hi => ?_⟩
    rw [← add_plain]; exact hcell i (by omega)
end Go.Proofs.YtjfphobfikadlaaGreatDoor
