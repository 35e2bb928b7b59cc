/- Contracts: the polynomial that most points have. -/
import Derived.Test.YtjfphobfikadlaaDoorCoLoc
import Derived.BigRegion
set_option linter.unusedVariables false
set_option linter.unusedSimpArgs false
namespace Go.Proofs.YtjfphobfikadlaaDoor
open Go.RowKit Num

/-- A polynomial that all but some points have. -/
def oneP (p need lies n : Nat) (X Y F : List Int) : Prop := Num.Can p F ∧ F.length ≤ need ∧ n ≤ agr p F (fOf X) (fOf Y) n + lies
def OnePost (p need lies n : Nat) (X Y : List Int) (w : World) (e : Ending) (w' : World) : Prop :=
  ((∃ F v, e = .returned (.tuple #[v, .int .i64 0]) ∧ oneP p need lies n X Y F ∧ OwnI w' w.heap.size v F) ∨ (e = .returned (.tuple #[.slice none 0 0, .int .i64 9]) ∧ ∀ F, ¬ oneP p need lies n X Y F)) ∧ Below w.heap.size w w'

set_option maxRecDepth 100000 in
set_option maxHeartbeats 4000000 in
theorem c_one (p need lies : Nat) (vx vy : Value) (X Y : List Int) (S T : Nat → Prop) (w : World) (hp : Prm p) (h2 : p ≤ 1073741824)
    (hx : IntsAt w S vx X) (hS : ∀ b, S b → b < w.heap.size) (hy : IntsAt w T vy Y) (hT : ∀ b, T b → b < w.heap.size) (lx : X.length ≤ 900) (ly : Y.length = X.length) (fx : InF p X) (fy : InF p Y)
    (hn1 : 1 ≤ need) (hnl : need + 2 * lies ≤ X.length) (hA : ApartN p (fOf X) X.length) (hd : ∀ i j, i < X.length → j < X.length → i ≠ j → X.getD i 0 ≠ X.getD j 0) :
    Calls Tryd.prog 32 #[.int .i64 (p : Int), .int .i64 (need : Int), .int .i64 (lies : Int), vx, vy] w (OnePost p need lies X.length X Y w) := by
  obtain ⟨i0, hi, hz0, hz1, hz2⟩ := info_parts infoI
  have hp1 : 1 ≤ p := by have := hp.1; omega
  have hloc := fun (W : World) (hb : Below w.heap.size w W) => c_locate p need lies vx vy X Y S T W hp h2 (hx.keep fun b hb' => hb.block b (hS b hb')) (fun b hb' => by have := hS b hb'; have := hb.size; omega) (hy.keep fun b hb' => hb.block b (hT b hb')) (fun b hb' => by have := hT b hb'; have := hb.size; omega) lx ly fx fy hn1 hnl hA
  have hagr := fun (W : World) (hb : Below w.heap.size w W) (vf : Value) (F : List Int) (U : Nat → Prop) (hf : IntsAt W U vf F) (hU : ∀ b, U b → b < W.heap.size) (lf : F.length ≤ 10000) (ff : InF p F) =>
    c_agree p vf vx vy F X Y U S T W hp1 h2 hf hU (hx.keep fun b hb' => hb.block b (hS b hb')) (fun b hb' => by have := hS b hb'; have := hb.size; omega) (hy.keep fun b hb' => hb.block b (hT b hb')) (fun b hb' => by have := hT b hb'; have := hb.size; omega) lf (by omega) ly ff fx
  obtain ⟨A, n, ca, rfl, hn, hnc, hcc⟩ := id hx
  obtain ⟨B, m, cb, rfl, hm, hmc, hcd⟩ := id hy
  have hmn : m = n := by omega
  subst hmn
  have htx := hx.take need (by omega)
  have hty := hy.take need (by omega)
  have hsl1 := fun (W : World) => run_slice_hi (P := Tryd.prog) W 22 3 i0 Tryd.underlying22 hi A m ca need (by omega) (need : Int) rfl
  have hsl2 := fun (W : World) => run_slice_hi (P := Tryd.prog) W 22 3 i0 Tryd.underlying22 hi B m cb need (by omega) (need : Int) rfl
  have ltx : (X.take need).length = need := by rw [List.length_take]; omega
  have lty : (Y.take need).length = need := by rw [List.length_take]; omega
  have hthr := fun (W : World) (hb : Below w.heap.size w W) => p_Through p (.slice A need ca) (.slice B need cb) (X.take need) (Y.take need) S T W hp.1 h2 (htx.keep fun b hb' => hb.block b (hS b hb')) (fun b hb' => by have := hS b hb'; have := hb.size; omega) (hty.keep fun b hb' => hb.block b (hT b hb')) (fun b hb' => by have := hT b hb'; have := hb.size; omega) (by omega) (by omega) (by omega)
    (InF.of_mem fun x hx' => fx.mem x (List.mem_of_mem_take hx')) (InF.of_mem fun x hx' => fy.mem x (List.mem_of_mem_take hx')) (fun i j h1 h3 hne => by
      rw [ltx] at h1 h3
      have := hd i j (by omega) (by omega) hne
      rwa [List.getD_eq_getElem?_getD, List.getD_eq_getElem?_getD, List.getElem?_take, List.getElem?_take, if_pos h1, if_pos h3, ← List.getD_eq_getElem?_getD, ← List.getD_eq_getElem?_getD])
  rw [ltx] at hthr
  rw [← hn] at hagr hloc ⊢
  have hle := agr_le p
  have HLE := Lib.hid hle
  have HTHR := Lib.hid hthr
  have HLOC := Lib.hid hloc
  have HAGR := Lib.hid hagr
  have hlm : lies ≤ m := by omega
  have hnm : need ≤ m := by omega
  have hm9 : m ≤ 900 := by omega
  have wq : IntKind.i64.wrap ((m : Int) - (lies : Int)) = (m : Int) - (lies : Int) := IntWalk.i64_in _ ⟨by omega, by omega⟩
  clear hx hy hn hm hA hcc hcd ly fx fy htx hty ltx lty hthr hloc hagr hle lx hnl hd
  go_enter Tryd.func32, Tryd.ntmps32
  go_wp2_with fail
  go_region_law (first
    | (go_simp; go_at_call 46; (refine (HTHR.out _ (by first | exact Below.refl _ _ | exact (Below.refl _ _).drew)).mono ?_)
       rintro e w1 ⟨F, v, cF, lF, rfl, hoF, hbF⟩
       have hb1 : Below w.heap.size w w1 := by first | exact hbF | exact (Below.refl _ _).drew.trans hbF
       have ho1 : OwnI w1 w.heap.size v F := hoF
       have HB1 := Lib.hid hb1
       have HO1 := Lib.hid ho1
       clear hoF hbF hb1 ho1))
  all_goals
    have hag1 := HAGR.out w1 HB1.out v F _ HO1.out.ints (fun b hb => hb.2) (by omega) (InF.of_mem cF.1)
    have hl1 := HLE.out F (fOf X) (fOf Y) m
    obtain ⟨a, ha⟩ : ∃ a, agr p F (fOf X) (fOf Y) m = a := ⟨_, rfl⟩
    rw [ha] at hag1 hl1
    have HAG1 := Lib.hid hag1
    have HA1 := Lib.hid ha
    clear hag1 ha
    go_wp2_with fail
    refine HAG1.out.mono ?_
    rintro e w2 ⟨rfl, hb2⟩
    have hb12 := HB1.out.trans (hb2.mono HB1.out.size)
    have HB2 := Lib.hid hb12
    have ho2 := HO1.out.below hb2
    have HO2 := Lib.hid ho2
    clear hb2 hb12 ho2
    by_cases hge : (m : Int) - (lies : Int) ≤ (a : Int)
    · have t1 : decide ((m : Int) - (lies : Int) ≤ (a : Int)) = true := decide_eq_true hge
      have HGE := Lib.hid hge
      clear hge
      go_wp2_with fail
      go_ret2
      exact ⟨.inl ⟨F, v, rfl, ⟨cF, lF, by rw [HA1.out]; have := HGE.out; omega⟩, HO2.out⟩, HB2.out⟩
    · have t1 : decide ((m : Int) - (lies : Int) ≤ (a : Int)) = false := decide_eq_false hge
      have HGE := Lib.hid hge
      have hlc := HLOC.out w2 HB2.out
      have HLC := Lib.hid hlc
      clear hge hlc
      go_wp2_with fail
      refine HLC.out.mono ?_
      rintro e w3 ⟨G, vG, b, rfl, hoG, cG, lG, hall, hb3⟩
      have hb13 := HB2.out.trans (hb3.mono HB2.out.size)
      have ho3 : OwnI w3 w.heap.size vG G := hoG.mono HB2.out.size
      have HB3 := Lib.hid hb13
      have HO3 := Lib.hid ho3
      have HALL := Lib.hid hall
      clear hb3 hb13 hoG ho3 hall
      cases b with
      | false =>
        go_wp2_with fail
        go_ret2
        refine ⟨.inr ⟨rfl, fun K hK => ?_⟩, HB3.out⟩
        have := (HALL.out K hK.1 hK.2.1 hK.2.2).1
        cases this
      | true =>
        have lG2 := lG rfl
        have hag3 := HAGR.out w3 HB3.out vG G _ HO3.out.ints (fun b hb => hb.2) (by omega) (InF.of_mem cG.1)
        obtain ⟨c, hc⟩ : ∃ c, agr p G (fOf X) (fOf Y) m = c := ⟨_, rfl⟩
        rw [hc] at hag3
        have HAG3 := Lib.hid hag3
        have HC := Lib.hid hc
        clear hag3 hc lG
        go_wp2_with fail
        refine HAG3.out.mono ?_
        rintro e w4 ⟨rfl, hb4⟩
        have hb14 := HB3.out.trans (hb4.mono HB3.out.size)
        have ho4 := HO3.out.below hb4
        have HB4 := Lib.hid hb14
        have HO4 := Lib.hid ho4
        clear hb4 hb14 ho4
        by_cases hlt : (c : Int) < (m : Int) - (lies : Int)
        · have t2 : decide ((c : Int) < (m : Int) - (lies : Int)) = true := decide_eq_true hlt
          have HLT := Lib.hid hlt
          clear hlt
          go_wp2_with fail
          go_ret2
          refine ⟨.inr ⟨rfl, fun K hK => ?_⟩, HB4.out⟩
          have e := (HALL.out K hK.1 hK.2.1 hK.2.2).2
          have h3 := hK.2.2
          rw [e, HC.out] at h3
          have := HLT.out
          omega
        · have t2 : decide ((c : Int) < (m : Int) - (lies : Int)) = false := decide_eq_false hlt
          have HLT := Lib.hid hlt
          clear hlt
          go_wp2_with fail
          go_ret2
          exact ⟨.inl ⟨G, vG, rfl, ⟨cG, lG2, by rw [HC.out]; have := HLT.out; omega⟩, HO4.out⟩, HB4.out⟩
end Go.Proofs.YtjfphobfikadlaaDoor
