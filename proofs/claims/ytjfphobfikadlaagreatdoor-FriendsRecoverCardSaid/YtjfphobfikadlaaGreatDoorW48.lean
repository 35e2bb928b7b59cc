/- The walk of the law FriendsRecover. What a slice of ints that is read as data gives. -/
import Derived.Test.YtjfphobfikadlaaGreatDoorW47
import Derived.Test.YtjfphobfikadlaaGreatDoorW44
import Derived.Test.YtjfphobfikadlaaGreatDoorW03
import Derived.ProofKit
import Derived.SizedLaws
set_option linter.unusedVariables false
set_option linter.unusedSimpArgs false
namespace Go.Proofs.YtjfphobfikadlaaGreatDoor
open Go.RowKit Num

theorem LsK.lim {w W : World} {d B p need hold : Nat} (h : LsK w d B p need hold W) : W.cell? ⟨B, 0, none⟩ = some (.int .i64 (p : Int)) ∧ W.cell? ⟨B, 1, none⟩ = some (.int .i64 (need : Int)) ∧ W.cell? ⟨B, 2, none⟩ = some (.int .i64 (hold : Int)) ∧ Hid (LsK w d B p need hold W) :=
  ⟨h.cell0, h.cell1, h.cell2, Lib.hid h⟩
/-- The circle and its shares lie ready. -/
def LcQ (w : World) (d B p need hold : Nat) (key : ByteArray) (c l e : Value) (wx : World) : Prop := ∃ s0 C Am nm cm Al cl, (s0 < p ∧ s0 < 1000) ∧ c = .pointer (some ⟨C, 0, none⟩) ∧ l = .slice Al hold cl ∧ e = .int .i64 0 ∧ K3 w d B C wx.heap.size p need hold key Am nm cm Al cl (LG p need key s0 hold) wx
section
variable {w wk : World} {d B p need hold C s0 : Nat} {key : ByteArray} {S : Nat → Prop} {Am : Option Addr} {nm cm : Nat} {vl : Value}
theorem lc_k {c l e : Value} {W : World} (h : LcQ w d B p need hold key c l e W) : LsK w d B p need hold W := by
  obtain ⟨s0, C, Am, nm, cm, Al, cl, -, -, -, -, h⟩ := h
  exact h.lsk
theorem lc_first (h : LsK w d B p need hold wk) (hs0 : s0 < p ∧ s0 < 1000) (hm : StrsAt wk S (.slice Am nm cm) (marksL (LG p need key s0 hold))) (hl : ShAt wk S vl (LG p need key s0 hold)) (hS : ∀ z, S z → d < z ∧ z < wk.heap.size) :
    LcQ w d B p need hold key (.pointer (some ⟨wk.heap.size, 0, none⟩)) vl (.int .i64 0) (wk.alloc (.cells #[.int .i64 (p : Int), .int .i64 (need : Int), .int .i64 (hold : Int), .int .i64 0, .slice Am nm cm, .string (shaOf key)] 40)) := by
  obtain ⟨Al, nl, cl, rfl, hnl, -⟩ := id hl
  have hn3 : nl = hold := by rw [hnl, LG_len]
  subst hn3
  have hp := h.plan.lt
  exact ⟨s0, wk.heap.size, Am, nm, cm, Al, cl, hs0, rfl, rfl, rfl, h.alloc _, Blk.new wk _ _, (hm.keep fun z hz => Below.heap_alloc _ _ _ (hS z hz).2).mono (fun z hz => ⟨(hS z hz).1, by have := (hS z hz).2; simp; omega⟩), (hl.keep fun z hz => Below.heap_alloc _ _ _ (hS z hz).2).mono (fun z hz => ⟨(hS z hz).1, by have := (hS z hz).2; simp; omega⟩), Nat.le_refl _, h.dice.lt, by simp, by simp; omega⟩
theorem lc_second {x0 x1 x2 x3 x4 x5 : Value} (h : LsK w d B p need hold wk) (kc : Blk wk C 40 #[x0, x1, x2, x3, x4, x5]) (hC : ∃ W, LsK w d B p need hold W ∧ C = W.heap.size) (hs0 : s0 < p ∧ s0 < 1000) (hm : StrsAt wk S (.slice Am nm cm) (marksL (LG p need key s0 hold))) (hl : ShAt wk S vl (LG p need key s0 hold)) (hS : ∀ z, S z → d < z ∧ z < wk.heap.size ∧ z ≠ C) :
    LcQ w d B p need hold key (.pointer (some ⟨C, 0, none⟩)) vl (.int .i64 0) ((((((wk.setCell ⟨C, 0, none⟩ (.int .i64 (p : Int))).setCell ⟨C, 1, none⟩ (.int .i64 (need : Int))).setCell ⟨C, 2, none⟩ (.int .i64 (hold : Int))).setCell ⟨C, 3, none⟩ (.int .i64 0)).setCell ⟨C, 4, none⟩ (.slice Am nm cm)).setCell ⟨C, 5, none⟩ (.string (shaOf key))) := by
  obtain ⟨Al, nl, cl, rfl, hnl, -⟩ := id hl
  have hn3 : nl = hold := by rw [hnl, LG_len]
  subst hn3
  obtain ⟨h1, h2⟩ := circ_set kc (.int .i64 (p : Int)) (.int .i64 (need : Int)) (.int .i64 (nl : Int)) (.int .i64 0) (.slice Am nm cm) (.string (shaOf key))
  generalize ((((((wk.setCell ⟨C, 0, none⟩ (.int .i64 (p : Int))).setCell ⟨C, 1, none⟩ (.int .i64 (need : Int))).setCell ⟨C, 2, none⟩ (.int .i64 (nl : Int))).setCell ⟨C, 3, none⟩ (.int .i64 0)).setCell ⟨C, 4, none⟩ (.slice Am nm cm)).setCell ⟨C, 5, none⟩ (.string (shaOf key))) = wf at *
  obtain ⟨W, hW, rfl⟩ := hC
  have hz := h2.size
  have hd := hW.dice.lt
  have hp := hW.plan.lt
  have hck := kc.lt
  have hp2 := h.plan.lt
  have hk : ∀ z, S z → wf.heap[z]? = wk.heap[z]? := fun z hz => h2.block z (hS z hz).2.1 (fun e => by injection e with e; exact (hS z hz).2.2 e)
  exact ⟨s0, W.heap.size, Am, nm, cm, Al, cl, hs0, rfl, rfl, rfl, ⟨h.dice.grown h2 (fun g hg => by injection hg with hg; omega), h.plan.grown h2 (fun e => by injection e with e; omega), h.old.grown h2 (Nat.le_of_lt h.dice.lt) (fun g hg => by injection hg with hg; omega), h.lt⟩, h1,
    (hm.keep hk).mono (fun z hz' => ⟨(hS z hz').1, by have := (hS z hz').2.1; omega⟩), (hl.keep hk).mono (fun z hz' => ⟨(hS z hz').1, by have := (hS z hz').2.1; omega⟩), Nat.le_refl _, hd, by omega, by omega⟩
end
set_option maxRecDepth 100000 in
set_option maxHeartbeats 8000000 in
theorem l_Recover (v : Value) (w : World) (hw : BasesOk w) (A : Option Addr) (n c : Nat) (hv : v = .slice A n c) (hn : n ≤ 9223372036854775807) (ha : n ≤ 500 → ArgL w v) :
    Calls Tryz.prog 4 #[v] w (BoolBelow true w) := by
  subst hv
  have haw := fun (W : World) (hW : Below w.heap.size w W) => f_awake W (hw.below hW)
  unfold BoolBelow at haw
  have HAW := Lib.hid haw
  by_cases h5 : n ≤ 500
  · have t1 : decide ((n : Int) ≤ 500) = true := decide_eq_true (by omega)
    have ha := ha h5
    have HW := Lib.hid hw
    have HA := Lib.hid ha
    clear hw ha haw
    go_enter Tryz.func4, Tryz.ntmps4
    go_wp2_with fail
    refine (k_Light A n c _ hn).mono ?_
    rintro e w' ⟨rfl, rfl⟩
    go_wp2_with fail
    refine (k_Roll _ _ HA.out).mono ?_
    rintro e w1 ⟨rfl, hd1, hb1⟩
    have hlt1 := hd1.lt
    obtain ⟨d, hd⟩ : ∃ d, w.heap.size = d := ⟨_, rfl⟩
    rw [hd] at hd1 hb1 hlt1 ⊢
    have HD := Lib.hid hd
    have HD1 := Lib.hid hd1
    have HB1 := Lib.hid hb1
    clear hd hd1 hb1 HA
    go_wp2_with fail
    refine (y_Safe d _ HD1.out).mono ?_
    rintro e w2 ⟨p, hpp, rfl, hd2, hg2⟩
    have hb2 : Below d w w2 := HB1.out.grown hg2 (by omega) (fun g hg => by injection hg with hg; omega)
    obtain ⟨-, h11, hp5⟩ := hpp.prm
    have HPP := Lib.hid hpp
    have HB2 := Lib.hid hb2
    have HD2 := Lib.hid hd2
    have hlt2 := hd2.lt
    clear hpp hb2 hd2 hg2 HD1 HB1
    go_wp2_with fail
    have hpl : Calls Tryz.prog 18 #[.pointer (some ⟨d, 0, none⟩), .int .i64 (p : Int)] w2 (fun e w' => ∃ need hold : Nat, 1 ≤ need ∧ need ≤ hold ∧ hold ≤ 5 ∧ need ≤ 3 ∧ e = .returned (.agg #[.int .i64 (p : Int), .int .i64 (need : Int), .int .i64 (hold : Int)]) ∧ Dc w' d ∧ w2.grownBy w' (some d)) := y_Plan d p w2 HD2.out (by omega)
    refine hpl.mono ?_
    rintro e w3 ⟨need, hold, n1, n2, n3, n4, rfl, hd3, hg3⟩
    have hb3 : Below d w w3 := HB2.out.grown hg3 (by omega) (fun g hg => by injection hg with hg; omega)
    have hlt3 := hd3.lt
    have hk0 : LsK w d w3.heap.size p need hold (w3.alloc (.cells #[.int .i64 (p : Int), .int .i64 (need : Int), .int .i64 (hold : Int)] 34)) := ⟨hd3.alloc _, Blk.new w3 _ _, hb3.alloc (by omega) _, hlt3⟩
    have HK0 := Lib.hid hk0
    clear hd3 hg3 hb3 hpl HD2 HB2 hk0
    go_upto_region 5 with fail
    generalize (w3.alloc (.cells #[.int .i64 (p : Int), .int .i64 (need : Int), .int .i64 (hold : Int)] 34)) = ws at *
    generalize w3.heap.size = B at *
    go_wp2_with fail
    refine (k_Salt3 d _ HK0.out.dice).mono ?_
    rintro e w0 ⟨key, hkey, hk16, rfl, hds, hgs⟩
    have H0 := Lib.hid (HK0.out.grown hgs hds)
    have HKEY := Lib.hid hkey
    have HK16 := Lib.hid hk16
    have HNN := Lib.hid (show 1 ≤ need ∧ need ≤ hold ∧ hold ≤ 5 ∧ need ≤ 3 from ⟨n1, n2, n3, n4⟩)
    clear hkey hk16 hds hgs HK0 hlt1 hlt2 hlt3
    have hbo : ∀ W, LsK w d B p need hold W → BasesOk W := fun W hK => HW.out.below (HD.out ▸ hK.old)
    have hNle : cntP p * (need - 1) ≤ 2048 * 4 := Nat.mul_le_mul (by have := cntP_le p; omega) (by omega)
    have hmk : ∀ W (r : Nat) vr T, LsK w d B p need hold W → IntsAt W T vr (fillL p (((r : Int) % (p : Int)).toNat) (cntP p * (need - 1))) → (∀ b, T b → b < W.heap.size) → Calls Tryz.prog 21 #[.agg #[.int .i64 (p : Int), .int .i64 (need : Int), .int .i64 (hold : Int)], .string key, vr] W (fun e w' => ∃ Am nm cm vl, e = .returned (.tuple #[.agg #[.int .i64 (p : Int), .int .i64 (need : Int), .int .i64 (hold : Int), .int .i64 0, .slice Am nm cm, .string (shaOf key)], vl, .int .i64 0]) ∧ StrsAt w' (fun b => W.heap.size ≤ b ∧ b < w'.heap.size) (.slice Am nm cm) (marksL (LG p need key (((r : Int) % (p : Int)).toNat) hold)) ∧ ShAt w' (fun b => W.heap.size ≤ b ∧ b < w'.heap.size) vl (LG p need key (((r : Int) % (p : Int)).toNat) hold) ∧ LsK w d B p need hold w' ∧ W.grownBy w' (some d)) := fun W r vr T hK hv hT =>
      (gm_Make HPP.out n1 n2 n3 HK16.out W (hbo W hK) vr T hv hT).mono fun e w' ⟨Am, nm, cm, vl, h1, h2, h3, h4⟩ => ⟨Am, nm, cm, vl, h1, h2, h3, hK.below h4, only_of_below h4 _⟩
    have hnd0 := fun W => f_Needs p need hold W (by omega) n1 (by omega)
    have hfl0 : ∀ W (r : Nat), LsK w d B p need hold W → Calls Tryz.prog 22 #[.int .i64 (p : Int), .int .i64 (r : Int), .int .i64 ((cntP p * (need - 1) : Nat) : Int)] W (fun e w' => ∃ vr, e = .returned vr ∧ IntsAt w' (fun b => W.heap.size ≤ b ∧ b < w'.heap.size) vr (fillL p (((r : Int) % (p : Int)).toNat) (cntP p * (need - 1))) ∧ LsK w d B p need hold w' ∧ W.grownBy w' (some d)) := fun W r hK => (y_Fill p (cntP p * (need - 1)) (r : Int) W (by omega) (by omega) (by omega)).mono fun e w' ⟨vr, h1, h2, h3⟩ => ⟨vr, h1, h2, hK.below h3, only_of_below h3 _⟩
    obtain ⟨N, hN⟩ : ∃ N, cntP p * (need - 1) = N := ⟨_, rfl⟩
    rw [hN] at hnd0 hfl0 hmk hNle
    have hnx : ∀ W, LsK w d B p need hold W → Calls Tryz.prog 23 #[.pointer (some ⟨d, 0, none⟩), .int .i64 1000] W (fun e w' => ∃ r : Nat, r < 1000 ∧ e = .returned (.int .i64 (r : Int)) ∧ LsK w d B p need hold w' ∧ W.grownBy w' (some d)) := fun W hW => (k_Next d 1000 W hW.dice (by decide) (by decide)).mono fun e w' ⟨r, h1, h2, h3, h4⟩ => ⟨r, h1, h2, hW.grown h4 h3, h4⟩
    have hnd : ∀ W, LsK w d B p need hold W → Calls Tryz.prog 24 #[.agg #[.int .i64 (p : Int), .int .i64 (need : Int), .int .i64 (hold : Int)]] W (fun e w' => e = .returned (.int .i64 (N : Int)) ∧ LsK w d B p need hold w' ∧ W.grownBy w' (some d)) := fun W hW => (hnd0 W).mono fun e w' ⟨h1, h2⟩ => ⟨h1, hW.below h2, only_of_below h2 _⟩
    have hsb : ∀ r : Nat, r < 1000 → ((r : Int) % (p : Int)).toNat < p ∧ ((r : Int) % (p : Int)).toNat < 1000 := fun r hr => by
      have e : ((r : Int) % (p : Int)).toNat = r % p := by rw [← Int.natCast_emod]; exact Int.toNat_natCast _
      rw [e]
      exact ⟨Nat.mod_lt _ (by omega), Nat.lt_of_le_of_lt (Nat.mod_le _ _) hr⟩
    have HSB := Lib.hid hsb
    have HNX := Lib.hid hnx
    have HND := Lib.hid hnd
    have HFL := Lib.hid hfl0
    have HMK := Lib.hid hmk
    have HBO := Lib.hid hbo
    clear hsb hnx hnd hfl0 hmk hbo hnd0 hN n1 n2 n3 n4
    go_upto_region 6 with fail
    go_cut [6, 7, 8] from 28 to 41 (fun c l e wx => LcQ w d B p need hold key c l e wx)
    case first =>
      go_region_held3 (fun W => W.cell? ⟨B, 0, none⟩ = some (.int .i64 (p : Int)) ∧ W.cell? ⟨B, 1, none⟩ = some (.int .i64 (need : Int)) ∧ W.cell? ⟨B, 2, none⟩ = some (.int .i64 (hold : Int)) ∧ Hid (LsK w d B p need hold W))
          (first
            | with_reducible exact H0.out.drew.lim
            | with_reducible exact H1.out.lim
            | with_reducible exact H2.out.lim
            | with_reducible exact H3.out.lim
            | with_reducible exact H4.out.lim
            | with_reducible exact (H0.out.alloc _).lim
            | with_reducible exact (H0.out.alloc _).drew.lim
            | with_reducible exact (H0.out.drew.alloc _).lim
            | with_reducible exact (H1.out.alloc _).lim
            | with_reducible exact (H1.out.alloc _).drew.lim
            | with_reducible exact (H1.out.drew.alloc _).lim
            | with_reducible exact (H2.out.alloc _).lim
            | with_reducible exact (H2.out.alloc _).drew.lim
            | with_reducible exact (H2.out.drew.alloc _).lim
            | with_reducible exact (H3.out.alloc _).lim
            | with_reducible exact (H3.out.alloc _).drew.lim
            | with_reducible exact (H3.out.drew.alloc _).lim
            | with_reducible exact (H4.out.alloc _).lim
            | with_reducible exact (H4.out.alloc _).drew.lim
            | with_reducible exact (H4.out.drew.alloc _).lim
            | with_reducible exact (lc_k (lc_second H4.out kc4 (by first | exact ⟨_, H0.out, rfl⟩ | exact ⟨_, H0.out.drew, rfl⟩ | exact ⟨_, H1.out, rfl⟩ | exact ⟨_, H2.out, rfl⟩ | exact ⟨_, H3.out, rfl⟩) (HSB.out _ HR.out) HMS.out HSH.out (fun b hb => ⟨by have h1 := hb.1; have h2 := H3.out.dice.lt; first | omega | (simp at h1; omega), hb.2, by have h1 := hb.1; first | (have h2 := kc3.lt; omega) | (simp at h1; omega)⟩))).lim)
          (first
            | (go_at_call 23; ((with_reducible refine (HNX.out _ (by first | exact H0.out | exact H0.out.drew | exact H0.out.alloc _ | exact (H0.out.alloc _).drew | exact (H0.out.drew).alloc _)).mono ?_); rintro e w1 ⟨r, hr, rfl, hK, hG⟩; have H1 : Hid (LsK w d B p need hold w1) := Lib.hid hK; have HR := Lib.hid hr; clear hr; (try (have kc1 : Blk w1 w0.heap.size 40 #[.int .i64 0, .int .i64 0, .int .i64 0, .int .i64 0, .slice none 0 0, .string ⟨#[]⟩] := (by first | exact (Blk.new w0 40 #[.int .i64 0, .int .i64 0, .int .i64 0, .int .i64 0, .slice none 0 0, .string ⟨#[]⟩]).grown hG H0.out.ne_d | exact (Blk.new w0 40 #[.int .i64 0, .int .i64 0, .int .i64 0, .int .i64 0, .slice none 0 0, .string ⟨#[]⟩]).drew.grown hG H0.out.ne_d | exact (Blk.new w0.drew 40 #[.int .i64 0, .int .i64 0, .int .i64 0, .int .i64 0, .slice none 0 0, .string ⟨#[]⟩]).grown hG H0.out.ne_d))); clear hK hG))
            | (go_at_call 24; ((with_reducible refine (HND.out _ (by first | exact H1.out | exact H1.out.drew | exact H1.out.alloc _ | exact (H1.out.alloc _).drew | exact (H1.out.drew).alloc _)).mono ?_); rintro e w2 ⟨rfl, hK, hG⟩; have H2 : Hid (LsK w d B p need hold w2) := Lib.hid hK; (try (have kc2 : Blk w2 w1.heap.size 40 #[.int .i64 0, .int .i64 0, .int .i64 0, .int .i64 0, .slice none 0 0, .string ⟨#[]⟩] := (by first | exact (Blk.new w1 40 #[.int .i64 0, .int .i64 0, .int .i64 0, .int .i64 0, .slice none 0 0, .string ⟨#[]⟩]).grown hG H1.out.ne_d | exact (Blk.new w1 40 #[.int .i64 0, .int .i64 0, .int .i64 0, .int .i64 0, .slice none 0 0, .string ⟨#[]⟩]).drew.grown hG H1.out.ne_d | exact (Blk.new w1.drew 40 #[.int .i64 0, .int .i64 0, .int .i64 0, .int .i64 0, .slice none 0 0, .string ⟨#[]⟩]).grown hG H1.out.ne_d))); (try (have kc2 := kc1.grown hG (by first | exact H0.out.ne_d | exact H1.out.ne_d))); clear hK hG))
            | (go_at_call 22; ((with_reducible refine (HFL.out _ r (by first | exact H2.out | exact H2.out.drew | exact H2.out.alloc _ | exact (H2.out.alloc _).drew | exact (H2.out.drew).alloc _)).mono ?_); rintro e w3 ⟨vr, rfl, hvr, hK, hG⟩; have H3 : Hid (LsK w d B p need hold w3) := Lib.hid hK; have HM3 := Lib.hid (fun (W : World) (hKW : LsK w d B p need hold W) (hb : Below w3.heap.size w3 W) => HMK.out W r vr _ hKW (hvr.keep fun b hb2 => hb.block b hb2.2) (fun b hb2 => Nat.lt_of_lt_of_le hb2.2 hb.size)); clear hvr; (try (have kc3 : Blk w3 w2.heap.size 40 #[.int .i64 0, .int .i64 0, .int .i64 0, .int .i64 0, .slice none 0 0, .string ⟨#[]⟩] := (by first | exact (Blk.new w2 40 #[.int .i64 0, .int .i64 0, .int .i64 0, .int .i64 0, .slice none 0 0, .string ⟨#[]⟩]).grown hG H2.out.ne_d | exact (Blk.new w2 40 #[.int .i64 0, .int .i64 0, .int .i64 0, .int .i64 0, .slice none 0 0, .string ⟨#[]⟩]).drew.grown hG H2.out.ne_d | exact (Blk.new w2.drew 40 #[.int .i64 0, .int .i64 0, .int .i64 0, .int .i64 0, .slice none 0 0, .string ⟨#[]⟩]).grown hG H2.out.ne_d))); (try (have kc3 := kc2.grown hG (by first | exact H0.out.ne_d | exact H1.out.ne_d | exact H2.out.ne_d))); clear hK hG))
            | (go_at_call 21; ((with_reducible refine (HM3.out _ (by first | exact H3.out | exact H3.out.drew | exact H3.out.alloc _ | exact (H3.out.alloc _).drew | exact (H3.out.drew).alloc _) (by first | exact Below.refl _ _ | exact (Below.refl _ _).drew | exact (Below.refl _ _).alloc (Nat.le_refl _) _ | exact ((Below.refl _ _).alloc (Nat.le_refl _) _).drew)).mono ?_); rintro e w4 ⟨Am, nm, cm, vl, rfl, hms, hsh, hK, hG⟩; have H4 : Hid (LsK w d B p need hold w4) := Lib.hid hK; have HMS := Lib.hid hms; have HSH := Lib.hid hsh; clear hms hsh; (try (have kc4 : Blk w4 w3.heap.size 40 #[.int .i64 0, .int .i64 0, .int .i64 0, .int .i64 0, .slice none 0 0, .string ⟨#[]⟩] := (by first | exact (Blk.new w3 40 #[.int .i64 0, .int .i64 0, .int .i64 0, .int .i64 0, .slice none 0 0, .string ⟨#[]⟩]).grown hG H3.out.ne_d | exact (Blk.new w3 40 #[.int .i64 0, .int .i64 0, .int .i64 0, .int .i64 0, .slice none 0 0, .string ⟨#[]⟩]).drew.grown hG H3.out.ne_d | exact (Blk.new w3.drew 40 #[.int .i64 0, .int .i64 0, .int .i64 0, .int .i64 0, .slice none 0 0, .string ⟨#[]⟩]).grown hG H3.out.ne_d))); (try (have kc4 := kc3.grown hG (by first | exact H0.out.ne_d | exact H1.out.ne_d | exact H2.out.ne_d | exact H3.out.ne_d))); (try (have d0 := (kc4.cell 0).trans (show _ = some (Value.int .i64 0) from rfl))); (try (have dz0 := kc4.frozen 0)); (try (have d1 := (kc4.cell 1).trans (show _ = some (Value.int .i64 0) from rfl))); (try (have dz1 := kc4.frozen 1)); (try (have d2 := (kc4.cell 2).trans (show _ = some (Value.int .i64 0) from rfl))); (try (have dz2 := kc4.frozen 2)); (try (have d3 := (kc4.cell 3).trans (show _ = some (Value.int .i64 0) from rfl))); (try (have dz3 := kc4.frozen 3)); (try (have d4 := (kc4.cell 4).trans (show _ = some (Value.slice none 0 0) from rfl))); (try (have dz4 := kc4.frozen 4)); (try (have d5 := (kc4.cell 5).trans (show _ = some (Value.string ⟨#[]⟩) from rfl))); (try (have dz5 := kc4.frozen 5)); clear hK hG)))
      all_goals
        go_wp2_with fail
        go_meet
        first
          | with_reducible exact lc_second H4.out kc4 (by first | exact ⟨_, H0.out, rfl⟩ | exact ⟨_, H0.out.drew, rfl⟩ | exact ⟨_, H1.out, rfl⟩ | exact ⟨_, H2.out, rfl⟩ | exact ⟨_, H3.out, rfl⟩) (HSB.out _ HR.out) HMS.out HSH.out (fun b hb => ⟨by have h1 := hb.1; have h2 := H3.out.dice.lt; first | omega | (simp at h1; omega), hb.2, by have h1 := hb.1; first | (have h2 := kc3.lt; omega) | (simp at h1; omega)⟩)
          | with_reducible exact lc_first H4.out (HSB.out _ HR.out) HMS.out HSH.out (fun b hb => ⟨by have h1 := hb.1; have h2 := H3.out.dice.lt; first | omega | (simp at h1; omega), hb.2⟩)
    case rest =>
      rename World => y0
      obtain ⟨s0, C, Am, nm, cm, Al, cl, hs0, rfl, rfl, rfl, hk3⟩ := hcut
      generalize y0.heap.size = NN at *
      obtain ⟨i0, hi, hz0, hz1, hz2⟩ := info_parts infoS
      have hpl : (packP p key.data.toList).length = cntP p := packP_len p _ HPP.out.wide_ HK16.out
      have hpi : InF p (packP p key.data.toList) := packP_in_ p _ HPP.out.wide_ (by omega)
      have hcl := cntP_le p
      have hc6 : 0 < cntP p := by unfold cntP; repeat' split
                                  all_goals omega
      obtain ⟨m, hm⟩ : ∃ m, cntP p = m := ⟨_, rfl⟩
      have hval : ∀ x, x < hold → (shAt (LG p need key s0 hold) x).2.length = m ∧ InF p (shAt (LG p need key s0 hold) x).2 ∧ (shAt (LG p need key s0 hold) x).1 = (x : Int) + 1 := fun x hx => by
        have hg0 := (FromDealM.deal (p := p) (k := need - 1) (hold := hold) (sec := packP p key.data.toList) (rnd := fillL p s0 (cntP p * (need - 1))) (by omega)).good
        refine ⟨by rw [← hm, ← hpl]; exact hg0.len x (by rw [dealt_lenM]; exact hx), hg0.inF x (by rw [dealt_lenM]; exact hx), by rw [LG_at _ _ _ _ _ _ hx]; rfl⟩
      have hrc := fun (T : List (Nat × Bool)) hT hTl vm v S U W hW hv hS hm hU => gr_Recover (p := p) (need := need) (hold := hold) (s0 := s0) (key := key) T HPP.out HKEY.out HK16.out HNN.out.1 HNN.out.2.1 HNN.out.2.2.1 HNN.out.2.2.2 hs0.1 hs0.2 hT hTl vm v S U W hW hv hS hm hU
      have hLl := LG_len p need key s0 hold
      generalize LG p need key s0 hold = L at *
      have hcc : hold ≤ cl := by
        obtain ⟨_, _, _, hva, h1, h2, -⟩ := id hk3.sh
        injection hva with a1 a2 a3
        omega
      have c2 := hk3.lsk.cell2
      have tne : ((hold : Int) != (hold : Int)) = false := by simp
      obtain ⟨hn1, hn2, hn3, hn4⟩ := HNN.out
      have hm1 : m ≤ 128 := by omega
      have hm0 : 0 < m := by omega
      have J0 := Lib.hid hk3
      have HV := Lib.hid hval
      have HRC := Lib.hid hrc
      have HLL := Lib.hid hLl
      clear hk3 hval hrc hLl hpl hpi hcl hc6 hm HNX HND HFL HMK H0 HSB hs0 hNle
      go_wp2_with fail
      clear c2
      go_loopw [9, 10, 11] (fun s q t wr => ∃ (i c0 : Nat) (T : List (Nat × Bool)) (us : Nat → Value), i ≤ hold ∧ q = .int .i64 (c0 : Int) ∧ t = .int .i64 (i : Int) ∧ Hid (c0 = (T.filter fun x => x.2).length) ∧ Hid (T.length = i) ∧ Hid (TagI T i) ∧ Hid (K3 w d B C NN p need hold key Am nm cm Al cl L wr) ∧ Hid (CI wr NN d p L T s us)) (fun _ _ t _ => hold - (intOf t).toNat)
      case atStart => exact ⟨0, 0, [], fun _ => .slice none 0 0, by omega, rfl, rfl, Lib.hid rfl, Lib.hid rfl, Lib.hid ⟨by simp, fun x hx => by cases hx⟩, J0, Lib.hid CI.nil⟩
      case round =>
        obtain ⟨i, c0, T, us, hih, rfl, rfl, HC0, HT, HTI, HK, HCI⟩ := hrel
        obtain ⟨As, cs, hsv, -, -⟩ := HCI.out.form
        obtain ⟨nT, hnT⟩ : ∃ nT, T.length = nT := ⟨_, rfl⟩
        rw [hnT] at hsv
        subst hsv
        have HNT := Lib.hid hnT
        have hc5 : c0 ≤ 5 := by
          have := List.length_filter_le (fun x : Nat × Bool => x.2) T
          have h1 := HC0.out
          have h2 := HT.out
          omega
        have hnT5 : nT ≤ 5 := by have := HT.out; omega
        clear hnT
        by_cases hlt : i < hold
        · have qi : (i : Int) < (hold : Int) := by omega
          have qi0 : (0 : Int) ≤ (i : Int) := by omega
          have hw1 : IntKind.i64.wrap ((i : Int) + 1) = (i : Int) + 1 := IntWalk.i64_in _ ⟨by omega, by omega⟩
          have hw2 : IntKind.i64.wrap ((c0 : Int) + 1) = (c0 : Int) + 1 := IntWalk.i64_in _ ⟨by omega, by omega⟩
          go_wp2_with fail
          refine (y_One d _ HK.out.lsk.dice).mono ?_
          rintro e w1 ⟨x, rfl, hd1, hg1⟩
          have hnw := HK.out.nw
          have hdn : d < NN := by have h1 := HK.out.dc; have h2 := HK.out.cn; omega
          have K1 := Lib.hid (HK.out.grown hg1 hd1)
          have CI1 := Lib.hid (HCI.out.dice hnw hdn hg1)
          have hnw1 := K1.out.nw
          clear hd1 hg1 hnw
          cases x with
          | true =>
            obtain ⟨b, off, hAl, hSb, hcell⟩ : ∃ b off, Al = some ⟨b, off, none⟩ ∧ (d < b ∧ b < NN) ∧ ∀ k, k < hold → ∃ u, w1.cell? ⟨b, off + k * 2, none⟩ = some (.int .i64 (shAt L k).1) ∧ w1.cell? ⟨b, off + k * 2 + 1, none⟩ = some u ∧ IntsAt w1 (fun z => d < z ∧ z < NN) u (shAt L k).2 := by
              obtain ⟨_, _, _, hva, -, -, hc⟩ := id K1.out.sh
              injection hva with a1 a2 a3
              subst a1 a2 a3
              exact hc (by omega)
            subst hAl
            obtain ⟨u, e0, e1, hu⟩ := hcell i hlt
            obtain ⟨Au, nu, cu, rfl, -⟩ := id hu
            obtain ⟨h, hh⟩ : ∃ h, (shAt L i).1 = h := ⟨_, rfl⟩
            rw [hh] at e0
            have hrow := CI1.out.row
            rw [HNT.out] at hrow
            have HU := Lib.hid hu
            have HH := Lib.hid hh
            clear hu hh hcell
            go_wp2_with (at_builtin; refine wpList_append_own _ rfl _ _ 41 rfl NN 49 i0 (.agg #[.int .i64 0, .slice none 0 0]) 2 32 Tryz.underlying41 hi hz0 hz1 hz2 rfl (by decide) _ _ _ rfl (hrow.alloc _) ⟨w1.heap.size, 0, none⟩ 1 1 [.int .i64 h, .slice Au nu cu] rfl rfl (World.news_of_block (cs := #[.int .i64 h, .slice Au nu cu]) (t := 49) (fr := (0, 0)) (heap_alloc_new w1 _)) (one2 rfl rfl) (by simp only [maxLen]; omega) (by omega) (by simp; omega) ?_)
            intro v5 w5 hown5 hgrow5 _
            have hg5 := grown_past hgrow5
            have hrow2 : w5.ownsRow NN 49 2 v5 (T.length + 1) (shC (tagL p L T) us ++ [.int .i64 (shAt L i).1, .slice Au nu cu]) := by rw [HNT.out, HH.out]; exact hown5
            have C5 := Lib.hid (CI1.out.right hnw1 hg5 hrow2 HU.out)
            have K5 := Lib.hid (K1.out.far hg5 (fun g hg => (hrow.lt g hg).1))
            clear hown5 hgrow5 hg5 hrow2 hrow
            go_wp2_with fail
            go_roundw
            case measure => simp [intOf]; omega
            case rel => exact ⟨i + 1, c0 + 1, T ++ [(i, true)], _, by omega, by go_num, by go_num, Lib.hid (by rw [List.filter_append, List.length_append, ← HC0.out]; rfl), Lib.hid (by rw [List.length_append, HT.out]; rfl), Lib.hid HTI.out.right, K5, C5⟩
          | false =>
            have hAl0 : ∃ ad, Al = some ad := by
              obtain ⟨_, _, _, hva, -, -, hc⟩ := id K1.out.sh
              injection hva with a1 a2 a3
              subst a1 a2 a3
              obtain ⟨b, off, hb, -⟩ := hc (by omega)
              exact ⟨_, hb⟩
            have hl1 := fun (W : World) => run_slice_lohi (P := Tryz.prog) W 41 49 i0 2 Tryz.underlying41 hi hz1 Al hold cl i (i + 1) (by omega) (by omega) (i : Int) ((i : Int) + 1) rfl rfl
            simp only [show i + 1 - i = 1 by omega] at hl1
            obtain ⟨v1l, v1i, v1h⟩ := HV.out i hlt
            have hcp := r_CopyA (.slice (subA Al cl i 2) 1 (cl - i)) [shAt L i] (fun z => d < z ∧ z < NN) w1 (K1.out.sh.one hlt) (fun b hb => by omega) (by simp) (fun k hk => by
              have hk0 : k = 0 := by simpa using hk
              subst hk0
              show 0 < (shAt L i).2.length ∧ (shAt L i).2.length ≤ 1000
              omega)
            have HCP := Lib.hid hcp
            clear hcp
            go_wp2_with fail
            refine HCP.out.mono ?_
            rintro e w2 ⟨v2, rfl, ⟨cells, gs, cz, hoc⟩, hb2⟩
            change OwnShG w2 w1.heap.size v2 [shAt L i] cells gs cz at hoc
            have hzb := hb2.size
            obtain ⟨g, cap, hveq, hcap, hBg, hgl, -⟩ := hoc.form (by simp)
            change v2 = .slice (some ⟨g, 0, none⟩) 1 cap at hveq
            subst hveq
            obtain ⟨h, hh⟩ : ∃ h, (shAt L i).1 = h := ⟨_, rfl⟩
            obtain ⟨xs, hxs⟩ : ∃ xs, (shAt L i).2 = xs := ⟨_, rfl⟩
            have he : shAt L i = (h, xs) := by rw [← hh, ← hxs]
            rw [he] at hoc
            rw [hxs] at v1l v1i
            have hoc' : OwnShG w2 w1.heap.size (.slice (some ⟨g, 0, none⟩) 1 cap) [(h, incK p xs 0)] cells gs cz := by rw [incK_zero]; exact hoc
            have HOC := Lib.hid hoc'
            have HB2 := Lib.hid hb2
            have HE := Lib.hid he
            have HIN := Lib.hid v1i
            have HXL := Lib.hid v1l
            clear hoc hoc' hb2 he hh hxs v1l v1i v1h HCP
            go_wp2_with fail
            go_loopw [13] (fun t wq => ∃ k : Nat, k ≤ m ∧ t = .int .i64 (k : Int) ∧ Hid (OwnShG wq w1.heap.size (.slice (some ⟨g, 0, none⟩) 1 cap) [(h, incK p xs k)] cells gs cz) ∧ Hid (Below w1.heap.size w1 wq)) (fun t _ => m - (intOf t).toNat)
            case atStart => exact ⟨0, by omega, rfl, HOC, HB2⟩
            case round =>
              rename World => wq
              obtain ⟨k, hkm, rfl, HO, HQ⟩ := hrel
              have hil : (incK p xs k).length = m := by rw [incK_len]; exact HXL.out
              obtain ⟨g', cap', hv', -, -, hgq, hcell⟩ := HO.out.form (by simp)
              injection hv' with q1 q2 q3
              injection q1 with q1
              injection q1 with q1
              subst q1
              clear q2 q3
              have hc1 := (hcell 0 (by simp)).2
              change wq.cell? ⟨g, 1, none⟩ = some (.slice (some ⟨gs 0, 0, none⟩) (incK p xs k).length (cz 0)) at hc1
              rw [hil] at hc1
              clear hcell
              by_cases hkl : k < m
              · have qk : (k : Int) < (m : Int) := by omega
                have qk0 : (0 : Int) ≤ (k : Int) := by omega
                have hrow := (HO.out.2 0 (by simp)).2.2.1
                change OwnI wq w1.heap.size (.slice (some ⟨gs 0, 0, none⟩) (incK p xs k).length (cz 0)) (incK p xs k) at hrow
                have hin := HIN.out k (by rw [HXL.out]; exact hkl)
                have hgk := incK_get p xs k k (by rw [HXL.out]; exact hkl)
                rw [if_neg (Nat.lt_irrefl k)] at hgk
                have hcv := World.ownsRow.cellAt hrow k (by rw [hil]; omega)
                rw [List.getElem?_map, List.getElem?_eq_getElem (by rw [hil]; exact hkl)] at hcv
                have hge : (incK p xs k)[k]'(by rw [hil]; exact hkl) = (incK p xs k).getD k 0 := by rw [List.getD_eq_getElem?_getD, List.getElem?_eq_getElem (by rw [hil]; exact hkl)]; rfl
                rw [hge, hgk] at hcv
                obtain ⟨V0, hV0⟩ : ∃ V0, xs.getD k 0 = V0 := ⟨_, rfl⟩
                rw [hV0] at hcv hin
                change wq.cell? ⟨gs 0, k, none⟩ = some (.int .i64 V0) at hcv
                have hfz := World.ownsRow.frozenAt hrow k
                obtain ⟨Z, hZ⟩ : ∃ Z, (V0 + 1) % (p : Int) = Z := ⟨_, rfl⟩
                have hw3 : IntKind.i64.wrap (V0 + 1) = V0 + 1 := IntWalk.i64_in _ ⟨by omega, by omega⟩
                have htm : (V0 + 1).tmod (p : Int) = Z := by rw [Int.tmod_eq_emod_of_nonneg (by omega)]; exact hZ
                have hpn : ((p : Int) == 0) = false := by simp; omega
                have hpn2 : ¬ ((p : Int) = 0) := by omega
                have hpn3 : ¬ (p = 0) := by omega
                have hcB : wq.cell? ⟨B, 0, none⟩ = some (.int .i64 (p : Int)) := (HQ.out.cell (p := ⟨B, 0, none⟩) (World.block_lt_of_cell? _ _ K1.out.lsk.cell0)).trans K1.out.lsk.cell0
                have hput := HO.out.put (i := 0) (by simp) k Z
                have hlist : [(h, incK p xs k)].set 0 ((shAt [(h, incK p xs k)] 0).1, (shAt [(h, incK p xs k)] 0).2.set k Z) = [(h, incK p xs (k + 1))] := by
                  show [(h, (incK p xs k).set k Z)] = _
                  rw [← hZ, ← hV0, incK_next p xs k (by rw [HXL.out]; exact hkl)]
                rw [hlist] at hput
                have hgB : w1.heap.size ≤ gs 0 := (World.ownsRow.lt hrow (gs 0) rfl).1
                have HO2 := Lib.hid hput.1
                have HQ2 := Lib.hid (HQ.out.setCell (p := ⟨gs 0, k, none⟩) hgB (.int .i64 Z))
                obtain ⟨G0, hG0⟩ : ∃ G0, gs 0 = G0 := ⟨_, rfl⟩
                obtain ⟨z0, hz0'⟩ : ∃ z0, cz 0 = z0 := ⟨_, rfl⟩
                rw [hG0] at hc1 hcv hfz HO2 HQ2
                rw [hz0'] at hc1
                clear hrow hgk hge hV0 hZ hput hlist hgB hin hG0 hz0' hil
                go_wp2_with fail
                go_region
                all_goals
                  go_wp2_with fail
                  go_roundw
                  case measure => simp [intOf]; omega
                  case rel => exact ⟨k + 1, by omega, by go_num, HO2, Lib.hid HQ2.out.drew⟩
              · have hkk : k = m := by omega
                subst hkk
                have qk : ¬ ((k : Int) < (k : Int)) := by omega
                have hCq := CI1.out.below hnw1 HQ.out
                have hKq := K1.out.below HQ.out
                have hnq := hKq.nw
                obtain ⟨_, _, hfo, hfc, hrd⟩ := hCq.form
                rw [HNT.out] at hfo hfc hrd
                injection hfo with f1 f2 f3
                rw [← f1] at hrd
                rw [← f3] at hfc
                clear f1 f2 f3
                have hone := hCq.one
                have hrw : wq.ownsRow NN 49 2 (.slice (some ⟨g, 0, none⟩) 1 cap) 1 cells := own_mono HO.out.1 hnw1
                have hcl2 : cells.length = 2 := by have := hrw.1; omega
                have hcs := HO.out.2 0 (by simp)
                have hce : cells = [.int .i64 h, .slice (some ⟨gs 0, 0, none⟩) k (cz 0)] := by
                  obtain ⟨a, b, rfl⟩ : ∃ a b, cells = [a, b] := by
                    match cells, hcl2 with
                    | [a, b], _ => exact ⟨a, b, rfl⟩
                  have h1 := hcs.1
                  have h2 := hcs.2.1
                  change some a = some (.int .i64 h) at h1
                  change some b = some (.slice (some ⟨gs 0, 0, none⟩) (incK p xs k).length (cz 0)) at h2
                  rw [hil] at h2
                  injection h1 with h1
                  injection h2 with h2
                  rw [h1, h2]
                have hui : OwnI wq NN (.slice (some ⟨gs 0, 0, none⟩) k (cz 0)) (wrg p (shAt L i)).2 := by
                  have h1 := hcs.2.2.1
                  change OwnI wq w1.heap.size (.slice (some ⟨gs 0, 0, none⟩) (incK p xs k).length (cz 0)) (incK p xs k) at h1
                  rw [hil] at h1
                  rw [HE.out]
                  show OwnI wq NN _ (xs.map fun v => (v + 1) % (p : Int))
                  rw [← incK_all, HXL.out]
                  exact own_mono h1 hnw1
                rw [hce] at hrw
                have HCQ := Lib.hid hCq
                have HKQ := Lib.hid hKq
                have HUI := Lib.hid hui
                have HRW := Lib.hid hrw
                have HRD := Lib.hid hrd
                have HONE := Lib.hid hone
                clear hCq hKq hui hrd hone hcs hce hil hrw
                go_wp2_with (at_builtin; refine wpList_append_any _ rfl _ _ 41 rfl NN 49 i0 (.agg #[.int .i64 0, .slice none 0 0]) 2 32 Tryz.underlying41 hi hz0 hz1 hz2 rfl (by decide) (.slice (some ⟨g, 0, none⟩) 1 cap) 1 [.int .i64 h, .slice (some ⟨gs 0, 0, none⟩) k (cz 0)] rfl HRW.out wq.heap.size As nT cs (shC (tagL p L T) us) rfl HRD.out HONE.out (by simp only [maxLen]; omega) (by omega) hnq ?_)
                intro v5 w5 hown5 hgrow5 hloc
                have hrow2 : w5.ownsRow NN 49 2 v5 (T.length + 1) ([.int .i64 (shAt L i).1, .slice (some ⟨gs 0, 0, none⟩) k (cz 0)] ++ shC (tagL p L T) us) := by
                  rw [HNT.out, HE.out, Nat.add_comm]; exact hown5
                have C5 := Lib.hid (HCQ.out.left hnq HRW.out hgrow5 hrow2 HUI.out)
                have K5 := Lib.hid (HKQ.out.far hgrow5 (fun x hx => (HRW.out.lt x hx).1))
                clear hown5 hgrow5 hrow2 hloc
                go_wp2_with fail
                go_roundw
                case measure => simp [intOf]; omega
                case rel => exact ⟨i + 1, c0, (i, false) :: T, _, by omega, rfl, by go_num, Lib.hid (by rw [HC0.out]; rfl), Lib.hid (by rw [List.length_cons, HT.out]), Lib.hid HTI.out.left, K5, C5⟩
        · have hih' : i = hold := by omega
          subst hih'
          have qi : ¬ ((i : Int) < (i : Int)) := by omega
          have hnw := HK.out.nw
          obtain ⟨g9, cap9, hs9, hsh9⟩ := HCI.out.at_ hnw (by rw [HT.out]; omega)
          rw [HNT.out] at hs9
          injection hs9 with f1 f2 f3
          subst f1 f3
          have hrec := HRC.out T HTI.out HT.out (.slice Am nm cm) _ _ _ wr (HBO.out wr HK.out.lsk) hsh9 (fun z hz => hz) HK.out.ms (fun z hz => by omega)
          unfold RecPost at hrec
          have hrl : (rig L T).length = c0 := by rw [HC0.out]; simp [rig]
          rw [hrl] at hrec
          have hfin : ∀ W, Below wr.heap.size wr W → Below w.heap.size w W := fun W hW => by
            rw [HD.out]
            exact HK.out.lsk.old.trans (hW.mono (Nat.le_of_lt HK.out.lsk.dice.lt))
          have HFIN := Lib.hid hfin
          have e0 : wr.cell? ⟨C, 0, none⟩ = some (.int .i64 (p : Int)) := HK.out.blk.cell 0
          have e1 : wr.cell? ⟨C, 1, none⟩ = some (.int .i64 (need : Int)) := HK.out.blk.cell 1
          have e2 : wr.cell? ⟨C, 2, none⟩ = some (.int .i64 (i : Int)) := HK.out.blk.cell 2
          have e3 : wr.cell? ⟨C, 3, none⟩ = some (.int .i64 0) := HK.out.blk.cell 3
          have e4 : wr.cell? ⟨C, 4, none⟩ = some (.slice Am nm cm) := HK.out.blk.cell 4
          have e5 : wr.cell? ⟨C, 5, none⟩ = some (.string (shaOf key)) := HK.out.blk.cell 5
          have hb1 := HK.out.lsk.cell1
          have hBl := World.block_lt_of_cell? _ _ hb1
          by_cases hfew : c0 < need
          · have d1 : decide ((c0 : Int) < (need : Int)) = true := decide_eq_true (by omega)
            have d2 : decide (c0 < need) = true := decide_eq_true hfew
            rw [if_pos hfew, if_pos hfew] at hrec
            have HREC := Lib.hid hrec
            clear hrec hrl hsh9 hfin hfew
            go_wp2_with fail
            refine HREC.out.mono ?_
            rintro e w5 ⟨rfl, hb5⟩
            have g1 := (hb5.cell (p := ⟨B, 1, none⟩) hBl).trans hb1
            have HB5 := Lib.hid hb5
            have HAWW := Lib.hid (HAW.out _ (HFIN.out _ hb5))
            clear hb5 e0 e1 e2 e3 e4 e5
            go_wp2_with fail
            refine HAWW.out.mono ?_
            rintro e w6 ⟨rfl, hb6⟩
            have HE := Lib.hid (HFIN.out _ (HB5.out.trans (hb6.mono HB5.out.size)))
            clear hb6
            go_wp2_with fail
            go_ret
            exact ⟨rfl, HE.out⟩
          · have d1 : decide ((c0 : Int) < (need : Int)) = false := decide_eq_false (by omega)
            have d2 : decide (c0 < need) = false := decide_eq_false hfew
            rw [if_neg hfew, if_neg hfew] at hrec
            have HREC := Lib.hid hrec
            clear hrec hrl hsh9 hfin hfew
            go_wp2_with fail
            refine HREC.out.mono ?_
            rintro e w5 ⟨rfl, hb5⟩
            have g1 := (hb5.cell (p := ⟨B, 1, none⟩) hBl).trans hb1
            have HB5 := Lib.hid hb5
            have HAWW := Lib.hid (HAW.out _ (HFIN.out _ hb5))
            clear hb5 e0 e1 e2 e3 e4 e5
            go_wp2_with fail
            refine HAWW.out.mono ?_
            rintro e w6 ⟨rfl, hb6⟩
            have HE := Lib.hid (HFIN.out _ (HB5.out.trans (hb6.mono HB5.out.size)))
            clear hb6
            go_wp2_with fail
            go_ret
            exact ⟨rfl, HE.out⟩
  · have t1 : decide ((n : Int) ≤ 500) = false := decide_eq_false (by omega)
    have HW := Lib.hid hw
    clear hw haw
    go_enter Tryz.func4, Tryz.ntmps4
    go_wp2_with fail
    refine (k_Light A n c _ hn).mono ?_
    rintro e w' ⟨rfl, rfl⟩
    go_wp2_with fail
    refine (HAW.out _ (Below.refl _ _)).mono ?_
    rintro e w2 ⟨rfl, hb2⟩
    go_wp2_with fail
    go_ret
    exact ⟨rfl, hb2⟩
end Go.Proofs.YtjfphobfikadlaaGreatDoor
namespace Go.Proofs.YtjfphobfikadlaaGreatDoor
open Go.ChangeShapes Go.WideShapes Go.ChangeAt Go.RowKit

theorem ints_fact {H : Type} {enc : TypeId × Value → H} {W : World} {t e : TypeId} {a : Option Addr} {n c : Nat} {d : DataW H} {p : List MemPlace} (ht : Tryz.prog.underlying t = some (.slice e)) (he : Tryz.prog.underlying e = some (.int .i64)) (hc : Tryz.prog.cellsOf e = 1)
    (h : DataW.Trod enc Tryz.prog W 0 (fun _ => true) true t (.slice a n c) d p) (hlt : ∀ x ∈ p, x.block < W.heap.size) :
    n ≤ 9223372036854775807 ∧ (n ≤ 500 → ArgL W (.slice a n c)) := by
  obtain ⟨fu, hf⟩ := h
  rcases open_ints ht he hc hf with ⟨hcs, hx⟩ | ⟨b, len', cap', zs, hcs, _, hl, hm, hz, hx, hcell, hwz⟩
  · simp [Value.cells] at hcs
    obtain ⟨rfl, rfl, rfl⟩ := hcs
    exact ⟨by omega, fun _ => ⟨none, 0, 0, fun _ => 0, rfl, by omega, fun h => absurd h (by omega)⟩⟩
  · simp [Value.cells] at hcs
    obtain ⟨rfl, rfl, rfl⟩ := hcs
    simp only [Prod.mk.injEq] at hx
    obtain ⟨rfl, rfl⟩ := hx
    simp only [if_true] at hz
    unfold maxLen at hm
    refine ⟨by omega, fun h5 => ⟨some b, n, c, fun i => zs.getD i 0, rfl, h5, fun hn => ?_⟩⟩
    obtain ⟨b0, off, spot⟩ := b
    have hspot : spot = none := by simpa [Addr.add] using World.cell?_spot (hcell 0 (by omega))
    subst hspot
    refine ⟨b0, off, rfl, hlt (.cell b0 off) (MemPlace.mem_row.2 ⟨0, by omega, by simp⟩), fun i hi => ?_⟩
    rw [← add_plain]; exact hcell i (by omega)
end Go.Proofs.YtjfphobfikadlaaGreatDoor
