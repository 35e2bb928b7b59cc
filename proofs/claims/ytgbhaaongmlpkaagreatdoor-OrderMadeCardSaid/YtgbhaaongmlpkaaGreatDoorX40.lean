/- Contracts: the statement OrderMade. -/
import Derived.Test.YtgbhaaongmlpkaaGreatDoorX39
import Derived.BigRegion
import Derived.Deep.RegionLaw
import Derived.Deep.RegionHeld3
import Derived.Deep.CutRange
import Derived.Deep.CutBlock
set_option linter.unusedVariables false
set_option linter.unusedSimpArgs false
namespace Go.Proofs.YtgbhaaongmlpkaaGreatDoor
open Go.RowKit Num Go.Shelf Go.Sort Go.Lib

theorem fo_alloc (w : World) (o : Obj) : Below w.heap.size w (w.alloc o) := (Below.refl _ _).alloc (Nat.le_refl _) o
set_option maxHeartbeats 400000 in
theorem fo_LightF (A : Option Addr) (n c : Nat) (w : World) (h : n ≤ 9223372036854775807) (h5 : ¬ n ≤ 500) : Calls Tryz.prog 4 #[.slice A n c] w fun e w' => e = .returned (.bool false) ∧ w = w' := by
  have := k_Light A n c w h
  rwa [decide_eq_false (by omega)] at this
theorem fo_LightT (A : Option Addr) (n c : Nat) (w : World) (h : n ≤ 9223372036854775807) (h5 : n ≤ 500) : Calls Tryz.prog 4 #[.slice A n c] w fun e w' => e = .returned (.bool true) ∧ w = w' := by
  have := k_Light A n c w h
  rwa [decide_eq_true (by omega)] at this
set_option maxRecDepth 100000 in
set_option maxHeartbeats 1000000 in
theorem f_order_heavy (A : Option Addr) (n c : Nat) (seed : ByteArray) (n0 n1 : Int) (w : World) (hl : LibOk w) (hsp : SpcOk w) (hn : n ≤ 9223372036854775807) (h5 : ¬ n ≤ 500) : Calls Tryz.prog 3 #[.slice A n c, .string seed, .agg #[.int .i64 n0, .int .i64 n1]] w (AwkO w) := by
  have HB := Lib.hid (fo_alloc w (.cells #[.int .i64 n0, .int .i64 n1] 23))
  have HL := Lib.hid (hl.later HB.out)
  have HSP := Lib.hid (spc_below hsp (by have := hl.size; show 2 < _; omega) HB.out)
  clear hl hsp
  go_enter Tryz.func3, Tryz.ntmps3
  go_wp2_with fail
  refine (fo_LightF A n c _ hn h5).mono ?_
  rintro e w1 ⟨rfl, rfl⟩
  go_wp2_with fail
  refine (o_awakeS _ HL.out HSP.out).mono ?_
  rintro e w2 ⟨rfl, hb2⟩
  have HB2 := Lib.hid (HB.out.trans (hb2.mono (by simp)))
  clear hb2
  go_wp2_with fail
  go_ret
  exact ⟨rfl, HB2.out⟩
set_option maxRecDepth 100000 in
set_option maxHeartbeats 1000000 in
theorem f_order_long (A : Option Addr) (n c : Nat) (seed : ByteArray) (n0 n1 : Int) (w : World) (hl : LibOk w) (hsp : SpcOk w) (hn : n ≤ 9223372036854775807) (h5 : n ≤ 500) (h6 : ¬ seed.size ≤ 100) : Calls Tryz.prog 3 #[.slice A n c, .string seed, .agg #[.int .i64 n0, .int .i64 n1]] w (AwkO w) := by
  have HB := Lib.hid (fo_alloc w (.cells #[.int .i64 n0, .int .i64 n1] 23))
  have HL := Lib.hid (hl.later HB.out)
  have HSP := Lib.hid (spc_below hsp (by have := hl.size; show 2 < _; omega) HB.out)
  have z1 : (100 : Int) < (seed.size : Int) := by omega
  clear hl hsp
  go_enter Tryz.func3, Tryz.ntmps3
  go_wp2_with fail
  refine (fo_LightT A n c _ hn h5).mono ?_
  rintro e w1 ⟨rfl, rfl⟩
  go_wp2_with fail
  refine (o_awakeS _ HL.out HSP.out).mono ?_
  rintro e w2 ⟨rfl, hb2⟩
  have HB2 := Lib.hid (HB.out.trans (hb2.mono (by simp)))
  clear hb2
  go_wp2_with fail
  go_ret
  exact ⟨rfl, HB2.out⟩
/-- The rounds' pairs, in a literal. -/
def FoP (W : World) (ab : Nat) : Prop := ab < W.heap.size ∧ ∀ k, k < 4 → ∃ x y : Int, W.cell? ⟨ab, k * 2, none⟩ = some (.int .i64 x) ∧ W.cell? ⟨ab, k * 2 + 1, none⟩ = some (.int .i64 y)
theorem FoP.step {W W' : World} {ab : Nat} (h : FoP W ab) (hb : Below W.heap.size W W') : FoP W' ab := ⟨Nat.lt_of_lt_of_le h.1 hb.size, fun k hk => by
  obtain ⟨x, y, h1, h2⟩ := h.2 k hk
  exact ⟨x, y, (hb.cell (p := ⟨ab, k * 2, none⟩) h.1).trans h1, (hb.cell (p := ⟨ab, k * 2 + 1, none⟩) h.1).trans h2⟩⟩
theorem fop_new (W : World) (t : TypeId) (a b c d e f g h : Int) : FoP (W.alloc (.cells #[.int .i64 a, .int .i64 b, .int .i64 c, .int .i64 d, .int .i64 e, .int .i64 f, .int .i64 g, .int .i64 h] t)) W.heap.size := by
  have hb := Blk.new W t #[.int .i64 a, .int .i64 b, .int .i64 c, .int .i64 d, .int .i64 e, .int .i64 f, .int .i64 g, .int .i64 h]
  refine ⟨by simp, fun k hk => ?_⟩
  have h4 : k = 0 ∨ k = 1 ∨ k = 2 ∨ k = 3 := by omega
  rcases h4 with rfl | rfl | rfl | rfl
  · exact ⟨a, b, hb.cell 0, hb.cell 1⟩
  · exact ⟨c, d, hb.cell 2, hb.cell 3⟩
  · exact ⟨e, f, hb.cell 4, hb.cell 5⟩
  · exact ⟨g, h, hb.cell 6, hb.cell 7⟩
/-- What is known of the list. -/
def FoL (w : World) (n0 n1 : Int) (v : Value) (W : World) : Prop := ∃ L, FoJ w n0 n1 v L W ∧ FewOr L
theorem FoL.drew {w W : World} {n0 n1 : Int} {v : Value} (h : FoL w n0 n1 v W) : FoL w n0 n1 v W.drew := by
  obtain ⟨L, h1, h2⟩ := h; exact ⟨L, h1.drew, h2⟩
theorem FoL.alloc {w W : World} {n0 n1 : Int} {v : Value} (h : FoL w n0 n1 v W) (o : Obj) : FoL w n0 n1 v (W.alloc o) := by
  obtain ⟨L, h1, h2⟩ := h; exact ⟨L, h1.alloc o, h2⟩
theorem FoL.lim {w W : World} {n0 n1 : Int} {v : Value} (h : FoL w n0 n1 v W) : W.cell? ⟨w.heap.size, 0, none⟩ = some (.int .i64 n0) ∧ W.cell? ⟨w.heap.size, 1, none⟩ = some (.int .i64 n1) ∧ Hid (FoL w n0 n1 v W) := by
  obtain ⟨L, h1, h2⟩ := id h
  exact ⟨(h1.k.box.cell 0).trans rfl, (h1.k.box.cell 1).trans rfl, Lib.hid h⟩
theorem fo_next {w : World} {n0 n1 : Int} {v : Value} (m : Nat) (W : World) (h1 : 1 ≤ m) (h2 : m ≤ 2305843009213693952) (h : FoL w n0 n1 v W) : Calls Tryz.prog 7 #[.pointer (some ⟨w.heap.size + 1, 0, none⟩), .int .i64 (m : Int)] W fun e W' => ∃ r : Nat, r < m ∧ e = .returned (.int .i64 (r : Int)) ∧ FoL w n0 n1 v W' := by
  obtain ⟨L, hj, hf⟩ := h
  refine (k_Next (w.heap.size + 1) m W hj.k.dc h1 h2).mono ?_
  rintro e W' ⟨r, hr, rfl, hd, hg⟩
  exact ⟨r, hr, rfl, L, hj.dice hd hg, hf⟩
theorem fo_next50 {w : World} {n0 n1 : Int} {v : Value} (W : World) (h : FoL w n0 n1 v W) : Calls Tryz.prog 7 #[.pointer (some ⟨w.heap.size + 1, 0, none⟩), .int .i64 50] W fun e W' => ∃ r : Nat, r < 50 ∧ e = .returned (.int .i64 (r : Int)) ∧ FoL w n0 n1 v W' := fo_next 50 W (by omega) (by omega) h
theorem fo_next9 {w : World} {n0 n1 : Int} {v : Value} (W : World) (h : FoL w n0 n1 v W) : Calls Tryz.prog 7 #[.pointer (some ⟨w.heap.size + 1, 0, none⟩), .int .i64 9] W fun e W' => ∃ r : Nat, r < 9 ∧ e = .returned (.int .i64 (r : Int)) ∧ FoL w n0 n1 v W' := fo_next 9 W (by omega) (by omega) h
def foLen : Value → Nat
  | .slice _ n _ => n
  | _ => 0
def ofS (n0 : Int) (i : Nat) : Int := [1, 2, 3, 0, 256, 257, n0].getD i 0
theorem ofS_in {n0 : Int} (h : -9223372036854775808 ≤ n0 ∧ n0 < 9223372036854775808) {r : Nat} (hr : r < 7) : -9223372036854775808 ≤ ofS n0 r ∧ ofS n0 r < 9223372036854775808 := by
  rcases (show r = 0 ∨ r = 1 ∨ r = 2 ∨ r = 3 ∨ r = 4 ∨ r = 5 ∨ r = 6 by omega) with rfl | rfl | rfl | rfl | rfl | rfl | rfl
  · exact ⟨(show (-9223372036854775808 : Int) ≤ 1 by decide), (show (1 : Int) < 9223372036854775808 by decide)⟩
  · exact ⟨(show (-9223372036854775808 : Int) ≤ 2 by decide), (show (2 : Int) < 9223372036854775808 by decide)⟩
  · exact ⟨(show (-9223372036854775808 : Int) ≤ 3 by decide), (show (3 : Int) < 9223372036854775808 by decide)⟩
  · exact ⟨(show (-9223372036854775808 : Int) ≤ 0 by decide), (show (0 : Int) < 9223372036854775808 by decide)⟩
  · exact ⟨(show (-9223372036854775808 : Int) ≤ 256 by decide), (show (256 : Int) < 9223372036854775808 by decide)⟩
  · exact ⟨(show (-9223372036854775808 : Int) ≤ 257 by decide), (show (257 : Int) < 9223372036854775808 by decide)⟩
  · exact h
theorem ofS_cells (W : World) (n0 : Int) : ∀ i, i < 7 → (W.alloc (.cells #[.int .i64 1, .int .i64 2, .int .i64 3, .int .i64 0, .int .i64 256, .int .i64 257, .int .i64 n0] 3)).cell? ⟨W.heap.size, 0 + i, none⟩ = some (.int .i64 (ofS n0 i)) := by
  intro r hr
  have hb := Blk.new W 3 #[.int .i64 1, .int .i64 2, .int .i64 3, .int .i64 0, .int .i64 256, .int .i64 257, .int .i64 n0]
  rw [Nat.zero_add]
  rcases (show r = 0 ∨ r = 1 ∨ r = 2 ∨ r = 3 ∨ r = 4 ∨ r = 5 ∨ r = 6 by omega) with rfl | rfl | rfl | rfl | rfl | rfl | rfl
  · exact hb.cell 0
  · exact hb.cell 1
  · exact hb.cell 2
  · exact hb.cell 3
  · exact hb.cell 4
  · exact hb.cell 5
  · exact hb.cell 6
set_option maxRecDepth 100000 in
set_option maxHeartbeats 4000000 in
theorem f_order_main (A : Option Addr) (n c : Nat) (seed : ByteArray) (n0 n1 : Int) (w : World) (hl : LibOk w) (hsp : SpcOk w) (hn : n ≤ 9223372036854775807) (h5 : n ≤ 500) (har : ArgL w (.slice A n c)) (h6 : seed.size ≤ 100) (hn0 : -9223372036854775808 ≤ n0 ∧ n0 < 9223372036854775808) : Calls Tryz.prog 3 #[.slice A n c, .string seed, .agg #[.int .i64 n0, .int .i64 n1]] w (AwkO w) := by
  obtain ⟨i0, hi, hz0, hz1, hz2⟩ := info_parts infoSt
  have hb0 := fo_alloc w (.cells #[.int .i64 n0, .int .i64 n1] 23)
  have hbx := Blk.new w 23 #[.int .i64 n0, .int .i64 n1]
  have har1 : ArgL (w.alloc (.cells #[.int .i64 n0, .int .i64 n1] 23)) (.slice A n c) := by
    obtain ⟨A', m, c', L, he, h1, h2⟩ := har
    refine ⟨A', m, c', L, he, h1, fun h0 => ?_⟩
    obtain ⟨b0, off, hA, hlt, hc⟩ := h2 h0
    exact ⟨b0, off, hA, by simp; omega, fun i hi => (World.cell?_alloc_lt w _ ⟨b0, off + i, none⟩ hlt).trans (hc i hi)⟩
  have HB := Lib.hid hb0
  have HL := Lib.hid (fun (W : World) (hW : Below w.heap.size w W) => hl.later hW)
  have HSP := Lib.hid (fun (W : World) (hW : Below w.heap.size w W) => spc_below hsp (by have := hl.size; show 2 < _; omega) hW)
  have HAR := Lib.hid har1
  have HBX := Lib.hid hbx
  have HN0 := Lib.hid hn0
  have z1 : ¬ (100 : Int) < (seed.size : Int) := by omega
  have hw9 : 0 < w.heap.size := by have := hl.size; omega
  clear hl hsp hb0 har har1 hbx hn0
  go_enter Tryz.func3, Tryz.ntmps3
  go_wp2_with fail
  refine (fo_LightT A n c _ hn h5).mono ?_
  rintro e w1 ⟨rfl, rfl⟩
  go_wp2_with fail
  refine (k_Roll _ _ HAR.out).mono ?_
  rintro e w2 ⟨rfl, hd2, hb2⟩
  rw [World.size_alloc] at hd2
  try rw [World.size_alloc]
  have hk2 : FoK w n0 n1 w2 := ⟨hd2, HB.out.trans (hb2.mono (by simp)), (hb2.block w.heap.size (by simp)).trans HBX.out⟩
  have HK2 := Lib.hid hk2
  clear hd2 hb2 hk2
  go_wp2_with fail
  refine (k_Next (w.heap.size + 1) 6 w2 HK2.out.dc (by omega) (by omega)).mono ?_
  rintro e w3 ⟨r, hr, rfl, hd3, hg3⟩
  have HK3 := Lib.hid (HK2.out.dice hd3 hg3)
  clear hd3 hg3 HK2
  go_wp2_with fail
  go_loopw [8, 9] (fun v8 v9 wr => ∃ (k : Nat) (L : List Stm), k ≤ 5 ∧ v9 = .int .i64 (k : Int) ∧ L.length + k ≤ 5 ∧ FoJ w n0 n1 v8 L wr) (fun _ v9 _ => (intOf v9).toNat)
  case atStart => exact ⟨r, [], by omega, rfl, by show 0 + r ≤ 5; omega, FoJ.nil HK3.out⟩
  case round =>
    obtain ⟨k, L, hk, rfl, hlk, hj⟩ := hrel
    have HJ := Lib.hid hj
    clear hj
    by_cases hk0 : 0 < k
    · have zk : (0 : Int) < (k : Int) := by omega
      go_wp2_with fail
      refine (p_Statement (w.heap.size + 1) wr HJ.out.k.dc).mono ?_
      intro e w4 hh
      obtain ⟨s, Aa, na, ca, Ac, nc, cc, As, ns, cs, rfl, hst, hsm, hd4, hg4⟩ := StmE.drop hh
      have hlt4 := HJ.out.k.lt
      have hj4 := HJ.out.dice hd4 hg4
      have hst4 : StmAt w4 (fun b => w.heap.size + 2 ≤ b ∧ b < w4.heap.size ∧ u8.ownBlock ≠ some b) (.slice Aa na ca) (.slice Ac nc cc) (.slice As ns cs) s := by
        obtain ⟨us, hrw⟩ := HJ.out.row
        exact (StsOwn.made (us := us) hrw (by omega) hlt4 hst hg4).2
      obtain ⟨xs, hown, hpush, -⟩ := hj4.own
      have HOWN := Lib.hid (hown.alloc (.cells #[.string s.resp, .int .i64 s.dep, .int .i64 s.day, .slice Aa na ca, .slice Ac nc cc, .slice As ns cs] 36))
      have HPUSH := Lib.hid (fun v' W' => hpush s ⟨.slice Aa na ca, .slice Ac nc cc, .slice As ns cs⟩ v' (.cells #[.string s.resp, .int .i64 s.dep, .int .i64 s.day, .slice Aa na ca, .slice Ac nc cc, .slice As ns cs] 36) W' hst4 hsm)
      have hlt5 := hj4.k.lt
      have hlen : L.length ≤ 4 := by omega
      obtain ⟨m, hm⟩ : ∃ m, L.length = m := ⟨_, rfl⟩
      rw [hm] at HOWN HPUSH hlen hlk
      have HM := Lib.hid hm
      clear hh hst hsm hd4 hg4 hlt4 hj4 hst4 hown hpush hm
      go_wp2_with (at_builtin; refine wpList_append_own_at _ rfl _ _ 28 rfl (w.heap.size + 2) 36 i0 (.agg #[.string ⟨#[]⟩, .int .i64 0, .int .i64 0, .slice none 0 0, .slice none 0 0, .slice none 0 0]) 6 104 Tryz.underlying28 hi hz0 hz1 hz2 rfl (by decide) _ _ _ rfl HOWN.out ⟨w4.heap.size, 0, none⟩ 1 1 [.string s.resp, .int .i64 s.dep, .int .i64 s.day, .slice Aa na ca, .slice Ac nc cc, .slice As ns cs] rfl rfl (cell_six_new _ _ _ _ _ _ _ _) (by intro u hu; simp at hu; rcases hu with rfl | rfl | rfl | rfl | rfl | rfl <;> rfl) (by unfold maxLen; omega) (by omega) (by simp; omega) ?_)
      intro v2 w5 hown2 hgrow2 _ hat2
      have HJ5 := Lib.hid (HPUSH.out v2 w5 hown2 hgrow2 (by simpa using hat2))
      clear hown2 hgrow2 hat2 HPUSH HOWN
      have zs : (k : Int) - 1 = ((k - 1 : Nat) : Int) := by omega
      obtain ⟨k1, hk1⟩ : ∃ k1, k - 1 = k1 := ⟨_, rfl⟩
      rw [hk1] at zs
      go_wp2_with fail
      go_roundw
      case measure => simp [intOf]; omega
      case rel => exact ⟨k1, _, by omega, by go_num, by have := HM.out; rw [List.length_append]; show _ + 1 + k1 ≤ 5; omega, HJ5.out⟩
    · have zk : ¬ (0 : Int) < (k : Int) := by omega
      go_wp2_with fail
      refine (k_Next (w.heap.size + 1) 5 wr HJ.out.k.dc (by omega) (by omega)).mono ?_
      rintro e w4 ⟨q, hq, rfl, hd4, hg4⟩
      have HJ4 := Lib.hid (HJ.out.dice hd4 hg4)
      have hl5 : L.length ≤ 5 := by omega
      clear hd4 hg4 HJ hlk
      go_upto_block 2 with fail
      go_cut [8] from 39 to 75 (fun v8 wx => FoL w n0 n1 v8 wx)
      case first =>
       obtain ⟨A8, c8, hv8⟩ := HJ4.out.slice
       subst hv8
       by_cases e0 : q = 0
       · subst e0
         obtain ⟨xs, hown, hpush, -⟩ := HJ4.out.own
         have HOWN := Lib.hid (hown.alloc (.cells #[.string ⟨#[]⟩, .int .i64 0, .int .i64 0, .slice none 0 0, .slice none 0 0, .slice none 0 0] 36))
         have HPUSH := Lib.hid (fun v' W' => hpush ⟨⟨#[]⟩, 0, 0, [], [], []⟩ nil3 v' (.cells #[.string ⟨#[]⟩, .int .i64 0, .int .i64 0, .slice none 0 0, .slice none 0 0, .slice none 0 0] 36) W' (bare_at _) (bare_sm _ (by decide)))
         have hltb := HJ4.out.k.lt
         clear hown hpush
         go_wp2_with (at_builtin; refine wpList_append_own_at _ rfl _ _ 28 rfl (w.heap.size + 2) 36 i0 (.agg #[.string ⟨#[]⟩, .int .i64 0, .int .i64 0, .slice none 0 0, .slice none 0 0, .slice none 0 0]) 6 104 Tryz.underlying28 hi hz0 hz1 hz2 rfl (by decide) _ _ _ rfl HOWN.out ⟨w4.heap.size, 0, none⟩ 1 1 [.string ⟨#[]⟩, .int .i64 0, .int .i64 0, .slice none 0 0, .slice none 0 0, .slice none 0 0] rfl rfl (cell_six_new _ _ _ _ _ _ _ _) (by intro u hu; simp at hu; rcases hu with rfl | rfl | rfl | rfl | rfl | rfl <;> rfl) (by unfold maxLen; omega) (by omega) (by simp; omega) ?_)
         intro v2 w5 hown2 hgrow2 _ hat2
         have HJ5 := Lib.hid (HPUSH.out v2 w5 hown2 hgrow2 (by simpa using hat2))
         clear hown2 hgrow2 hat2 HPUSH HOWN
         go_wp2_with fail
         go_meet
         exact ⟨_, HJ5.out, by rw [List.length_append]; show _ + 1 ≤ 257; omega, .inl (by rw [List.length_append]; show _ + 1 ≤ 7; omega)⟩
       · have f0 : ((q : Int) == 0) = false := by rw [beq_eq_false_iff_ne]; omega
         by_cases e1 : q = 1
         · subst e1
           clear f0 e0
           by_cases hl0 : 0 < L.length
           · have zl : (0 : Int) < (L.length : Int) := by omega
             obtain ⟨us, hrw⟩ := HJ4.out.row
             obtain ⟨g, cap, hv, hB, hg⟩ := hrw.row.form hl0
             injection hv with e1 e2 e3
             subst e1 e3
             have hcap := own_cap hrw.row
             have hcl : ∀ W, StsOwn W (w.heap.size + 2) 36 6 (.slice (some ⟨g, 0, none⟩) L.length c8) L us (fun _ => []) → ∀ k, k < L.length → ∀ j u, j < 6 → (stmCell (stmL L k) (us k)).getD j undef = u → W.cell? ⟨g, k * 6 + j, none⟩ = some u := fun W hW k hk j u hj hu => by
               have := hW.cells (fun _ => rfl) hk hj
               rw [List.append_nil] at this
               have hl : j < (stmCell (stmL L k) (us k)).length := hj
               rw [this, ← hu, List.getD_eq_getElem?_getD, List.getElem?_eq_getElem hl]; rfl
             have hat : ∀ k, k < L.length → StmAt w4 (fun b => w.heap.size + 2 ≤ b ∧ b < w4.heap.size ∧ (Value.slice (some ⟨g, 0, none⟩) L.length c8).ownBlock ≠ some b) (us k).a (us k).c (us k).s (stmL L k) := hrw.at_
             have hsm := HJ4.out.sm
             have hk4 := HJ4.out.k
             have hnx : ∀ W, Dc W (w.heap.size + 1) → Calls Tryz.prog 7 #[.pointer (some ⟨w.heap.size + 1, 0, none⟩), .int .i64 (L.length : Int)] W (NextPost (w.heap.size + 1) L.length W) := fun W hW => k_Next (w.heap.size + 1) L.length W hW (by omega) (by omega)
             obtain ⟨s0, hs0⟩ : ∃ s0, stmL L 0 = s0 := ⟨_, rfl⟩
             obtain ⟨⟨va, vc, vs⟩, hu0⟩ : ∃ u0, us 0 = u0 := ⟨_, rfl⟩
             have hst0 := hat 0 hl0
             rw [hs0, hu0] at hst0
             dsimp only at hst0
             obtain ⟨Aa, na, ca, Ac, nc, cc, As, ns, cs, rfl, rfl, rfl⟩ := stm_forms hst0
             have hc0 : ∀ W, StsOwn W (w.heap.size + 2) 36 6 (.slice (some ⟨g, 0, none⟩) L.length c8) L us (fun _ => []) → ∀ j u, j < 6 → (stmCell s0 ⟨.slice Aa na ca, .slice Ac nc cc, .slice As ns cs⟩).getD j undef = u → W.cell? ⟨g, j, none⟩ = some u := fun W hW j u hj hu => by
               have := hcl W hW 0 hl0 j u hj (by rw [hs0, hu0]; exact hu)
               rwa [Nat.zero_mul, Nat.zero_add] at this
             have E0 := cell_drew' (hc0 w4 hrw 0 (.string s0.resp) (by decide) rfl)
             have E1 := cell_drew' (hc0 w4 hrw 1 (.int .i64 s0.dep) (by decide) rfl)
             have E2 := cell_drew' (hc0 w4 hrw 2 (.int .i64 s0.day) (by decide) rfl)
             have E3 := cell_drew' (hc0 w4 hrw 3 (.slice Aa na ca) (by decide) rfl)
             have E4 := cell_drew' (hc0 w4 hrw 4 (.slice Ac nc cc) (by decide) rfl)
             have E5 := cell_drew' (hc0 w4 hrw 5 (.slice As ns cs) (by decide) rfl)
             have hrwd : StsOwn w4.drew (w.heap.size + 2) 36 6 (.slice (some ⟨g, 0, none⟩) L.length c8) L us (fun _ => []) := ⟨hrw.row.drew, fun k hk => (hrw.at_ k hk).keep fun b _ => rfl⟩
             have HRWD := Lib.hid hrwd
             clear hrwd
             have HRW := Lib.hid hrw
             have HCL := Lib.hid hcl
             have HC0 := Lib.hid hc0
             have HAT := Lib.hid hat
             have HSM := Lib.hid hsm
             have HK4 := Lib.hid hk4
             have HNX := Lib.hid hnx
             have HS0 := Lib.hid hs0
             have HU0 := Lib.hid hu0
             obtain ⟨m, hm⟩ : ∃ m, L.length = m := ⟨_, rfl⟩
             rw [hm] at hl0 hl5 zl hcap HRW HNX ⊢
             have HM := Lib.hid hm
             clear hrw hcl hc0 hat hsm hk4 hnx hs0 hu0 hst0 hm
             go_upto_region 14 with fail
             go_region_law (first
               | ((try go_simp); go_at_call 7; (refine (HNX.out _ (HK4.out.drew).dc).mono ?_); rintro e w6 ⟨r6, hr6, rfl, hd6, hg6⟩
                  have hrw6 : StsOwn w6 (w.heap.size + 2) 36 6 (.slice (some ⟨g, 0, none⟩) L.length c8) L us (fun _ => []) := HRWD.out.keep (w' := w6) (row := some (w.heap.size + 1)) hg6 (fun q hq => by injection hq; omega)
                  have hr6L : r6 < L.length := by rw [HM.out]; exact hr6
                  have hst1 := HAT.out r6 hr6L
                  obtain ⟨s1, hs1⟩ : ∃ s1, stmL L r6 = s1 := ⟨_, rfl⟩
                  obtain ⟨⟨ba, bc, bs⟩, hu1⟩ : ∃ u1, us r6 = u1 := ⟨_, rfl⟩
                  rw [hs1, hu1] at hst1
                  dsimp only at hst1
                  obtain ⟨Ba, ma, da, Bc, mc, dc, Bs, ms, ds, rfl, rfl, rfl⟩ := stm_forms hst1
                  have hc1 : ∀ j u, j < 6 → (stmCell s1 ⟨.slice Ba ma da, .slice Bc mc dc, .slice Bs ms ds⟩).getD j undef = u → w6.cell? ⟨g, r6 * 6 + j, none⟩ = some u := fun j u hj hu => HCL.out w6 hrw6 r6 hr6L j u hj (by rw [hs1, hu1]; exact hu)
                  have d0 := hc1 0 (.string s1.resp) (by decide) rfl
                  have d1 := hc1 1 (.int .i64 s1.dep) (by decide) rfl
                  have d2 := hc1 2 (.int .i64 s1.day) (by decide) rfl
                  have d3 := hc1 3 (.slice Ba ma da) (by decide) rfl
                  have d4 := hc1 4 (.slice Bc mc dc) (by decide) rfl
                  have d5 := hc1 5 (.slice Bs ms ds) (by decide) rfl
                  simp only [Nat.add_zero] at d0
                  have f0 := HC0.out w6 hrw6 0 (.string s0.resp) (by decide) rfl
                  have f1 := HC0.out w6 hrw6 1 (.int .i64 s0.dep) (by decide) rfl
                  have f2 := HC0.out w6 hrw6 2 (.int .i64 s0.day) (by decide) rfl
                  have f3 := HC0.out w6 hrw6 3 (.slice Aa na ca) (by decide) rfl
                  have f4 := HC0.out w6 hrw6 4 (.slice Ac nc cc) (by decide) rfl
                  have f5 := HC0.out w6 hrw6 5 (.slice As ns cs) (by decide) rfl
                  have zr : (r6 : Int) < (m : Int) := by omega
                  have zr0 : (0 : Int) ≤ (r6 : Int) := by omega
                  have HRW6 := Lib.hid hrw6
                  have HK6 := Lib.hid ((HK4.out.drew).dice hd6 hg6)
                  have HS1 := Lib.hid hs1
                  have HU1 := Lib.hid hu1
                  have HR6L := Lib.hid hr6L
                  have HG6 := Lib.hid hg6
                  have hown6 := hrw6.row
                  rw [HM.out] at hown6
                  have HOWN := Lib.hid hown6
                  clear hrw6 hr6L hst1 hs1 hu1 hc1 hd6 hg6 hown6)
               | (refine step_append_lies _ (by rfl) _ _ _ (by rfl) (w.heap.size + 2) 36 i0 _ 6 104 Tryz.underlying28 hi hz0 hz1 hz2 rfl (by omega) (.slice (some ⟨g, 0, none⟩) m c8) m _ (by (try simp only [List.getElem_toArray, List.getElem_cons_succ, List.getElem_cons_zero, Act.put, List.setIfInBounds_toArray, List.set_cons_zero, List.set_cons_succ]); rfl) (by first | exact HOWN.out.alloc _ | exact (HOWN.out.alloc _).drew) ⟨w6.heap.size, 0, none⟩ 2 2 [.string s0.resp, .int .i64 s0.dep, .int .i64 s0.day, .slice Aa na ca, .slice Ac nc cc, .slice As ns cs, .string s1.resp, .int .i64 s1.dep, .int .i64 s1.day, .slice Ba ma da, .slice Bc mc dc, .slice Bs ms ds] (by (try simp only [List.getElem_toArray, List.getElem_cons_succ, List.getElem_cons_zero, Act.put, List.setIfInBounds_toArray, List.set_cons_zero, List.set_cons_succ]); rfl) (by rfl) (World.news_of_block (cs := #[.string s0.resp, .int .i64 s0.dep, .int .i64 s0.day, .slice Aa na ca, .slice Ac nc cc, .slice As ns cs, .string s1.resp, .int .i64 s1.dep, .int .i64 s1.day, .slice Ba ma da, .slice Bc mc dc, .slice Bs ms ds]) (t := 36) (fr := (0, 0)) (heap_alloc_new w6 _)) (by intro u hu; simp at hu; rcases hu with rfl | rfl | rfl | rfl | rfl | rfl | rfl | rfl | rfl | rfl | rfl | rfl <;> rfl) (by omega) (by simp only [maxLen]; omega) (by omega) (by have := HK6.out.lt; simp; omega) (w6.heap.size + 1) (by simp) ?_
                  intro g7 cap7 w7 hown7 hgrow7 hat7 hlt7
                  have HO7 := Lib.hid hown7
                  have HG7 := Lib.hid hgrow7
                  have HA7 := Lib.hid hat7
                  clear hown7 hgrow7 hat7))
             all_goals
               go_wp2_with fail
               go_meet
               refine ⟨L ++ [s0] ++ [s1], ?_, by have := HM.out; simp; omega, .inl (by have := HM.out; simp; omega)⟩
               have e9 : ∀ k, k < L.length → StmAt w6 (fun b => w.heap.size + 2 ≤ b ∧ b < w6.heap.size ∧ (Value.slice (some ⟨g, 0, none⟩) L.length c8).ownBlock ≠ some b) (us k).a (us k).c (us k).s (stmL L k) := HRW6.out.at_
               have hs0' := e9 0 (by rw [HM.out]; exact hl0)
               have hs1' := e9 r6 HR6L.out
               rw [HS0.out, HU0.out] at hs0'
               rw [HS1.out, HU1.out] at hs1'
               have hm0 := HSM.out _ (stmL_mem (L := L) (k := 0) (by rw [HM.out]; exact hl0))
               have hm1 := HSM.out _ (stmL_mem HR6L.out)
               rw [HS0.out] at hm0
               rw [HS1.out] at hm1
               have hO7 := HO7.out
               rw [← HM.out] at hO7
               have hG7 := HG7.out
               rw [← HM.out] at hG7 ⊢
               exact FoJ.push2 HRW6.out HK6.out HSM.out hs0' hs1' hm0 hm1 hO7 hG7 (by
                 rcases HA7.out with e | e
                 · exact .inl e.symm
                 · exact .inr (by rw [e]; rfl))
           · have zl : ¬ (0 : Int) < (L.length : Int) := by omega
             go_wp2_with fail
             go_meet
             exact ⟨L, HJ4.out, by omega, .inl (by omega)⟩
         · have f1 : ((q : Int) == 1) = false := by rw [beq_eq_false_iff_ne]; omega
           by_cases e2 : q = 2
           · subst e2
             clear f0 f1 e0 e1
             go_wp2_with fail
             go_loopw [8] (fun v8 wr => ∃ L', FoJ w n0 n1 v8 L' wr ∧ foLen v8 = L'.length ∧ L'.length ≤ 257 ∧ (L'.length ≤ 5 ∨ ∃ s ∈ L', bytZ s ≠ 0)) (fun v8 _ => 257 - foLen v8)
             case atStart => exact ⟨L, HJ4.out, rfl, by omega, .inl hl5⟩
             case round =>
               rename World => wq
               obtain ⟨L', hj', hln, hl', hbad⟩ := hrel
               obtain ⟨A9, c9, hv9⟩ := hj'.slice
               subst hv9
               have HJ' := Lib.hid hj'
               have HBAD := Lib.hid hbad
               obtain ⟨m, hm⟩ : ∃ m, L'.length = m := ⟨_, rfl⟩
               have HM := Lib.hid hm
               rw [hm] at hl' HJ' ⊢
               clear hj' hln hbad hm
               go_wp2_with fail
               refine (k_Next (w.heap.size + 1) 2 wq HJ'.out.k.dc (by omega) (by omega)).mono ?_
               rintro e w6 ⟨r6, hr6, rfl, hd6, hg6⟩
               have HJ6 := Lib.hid (HJ'.out.dice hd6 hg6)
               clear hd6 hg6 HJ'
               by_cases hgo : (m : Int) < 256 + (r6 : Int)
               · have hm6 : m ≤ 256 := by omega
                 obtain ⟨xs, hown, hpush, -⟩ := HJ6.out.own
                 have HOWN := Lib.hid (hown.alloc (.cells #[.string ⟨#[120]⟩, .int .i64 0, .int .i64 0, .slice none 0 0, .slice none 0 0, .slice none 0 0] 36))
                 have HPUSH := Lib.hid (fun v' W' => hpush ⟨⟨#[120]⟩, 0, 0, [], [], []⟩ nil3 v' (.cells #[.string ⟨#[120]⟩, .int .i64 0, .int .i64 0, .slice none 0 0, .slice none 0 0, .slice none 0 0] 36) W' (bare_at _) (bare_sm _ (by decide)))
                 have hltb := HJ6.out.k.lt
                 rw [HM.out] at HOWN HPUSH
                 clear hown hpush
                 go_wp2_with (at_builtin; refine wpList_append_own_at _ rfl _ _ 28 rfl (w.heap.size + 2) 36 i0 (.agg #[.string ⟨#[]⟩, .int .i64 0, .int .i64 0, .slice none 0 0, .slice none 0 0, .slice none 0 0]) 6 104 Tryz.underlying28 hi hz0 hz1 hz2 rfl (by decide) _ _ _ rfl HOWN.out ⟨w6.heap.size, 0, none⟩ 1 1 [.string ⟨#[120]⟩, .int .i64 0, .int .i64 0, .slice none 0 0, .slice none 0 0, .slice none 0 0] rfl rfl (cell_six_new _ _ _ _ _ _ _ _) (by intro u hu; simp at hu; rcases hu with rfl | rfl | rfl | rfl | rfl | rfl <;> rfl) (by unfold maxLen; omega) (by omega) (by simp; omega) ?_)
                 intro v2 w5 hown2 hgrow2 _ hat2
                 have HJ5 := Lib.hid (HPUSH.out v2 w5 hown2 hgrow2 (by simpa using hat2))
                 clear hown2 hgrow2 hat2 HPUSH HOWN
                 go_wp2_with fail
                 obtain ⟨A7, c7, hv7⟩ := HJ5.out.slice
                 subst hv7
                 have hl1 : (L' ++ [(⟨⟨#[120]⟩, 0, 0, [], [], []⟩ : Stm)]).length = m + 1 := by rw [List.length_append, HM.out]; rfl
                 go_roundw
                 case measure => show 257 - (L' ++ [(⟨⟨#[120]⟩, 0, 0, [], [], []⟩ : Stm)]).length < 257 - m; rw [hl1]; omega
                 case rel =>
                    ((repeat apply Exists.intro); exact ⟨⟨_, HJ5.out, rfl, by rw [hl1]; omega, .inr ⟨_, List.mem_append.2 (.inr (List.mem_singleton.2 rfl)), by rw [bare_none]; decide⟩⟩, rfl⟩)
               · go_wp2_with fail
                 go_meet
                 refine ⟨L', HJ6.out, by rw [HM.out]; omega, ?_⟩
                 rcases HBAD.out with e | e
                 · exact .inl (by omega)
                 · exact .inr e
           · have f2 : ((q : Int) == 2) = false := by rw [beq_eq_false_iff_ne]; omega
             go_wp2_with fail
             go_meet
             exact ⟨L, HJ4.out, by omega, .inl (by omega)⟩
      case rest =>
        rename World => w9
        have HF := Lib.hid hcut
        clear hcut HJ4
        go_upto_region 18 with fail
        go_region_held3 (fun W => W.cell? ⟨w.heap.size, 0, none⟩ = some (.int .i64 n0) ∧ W.cell? ⟨w.heap.size, 1, none⟩ = some (.int .i64 n1) ∧ Hid (FoL w n0 n1 u8 W))
          (first
            | with_reducible exact HF.out.drew.lim
            | with_reducible exact HF6.out.lim
            | with_reducible exact HF7.out.lim
            | with_reducible exact HF8.out.lim
            | with_reducible exact (HF8.out.alloc _).lim)
          (first
            | (go_at_call 7; ((with_reducible refine (fo_next50 _ HF.out.drew).mono ?_); rintro e w6 ⟨r6, hr6, rfl, hf6⟩; have HF6 := Lib.hid hf6; clear hf6))
            | (go_at_call 7; ((with_reducible refine (fo_next9 _ HF6.out).mono ?_); rintro e w7 ⟨r7, hr7, rfl, hf7⟩; have HF7 := Lib.hid hf7; clear hf7))
            | (go_at_call 7; ((with_reducible refine (fo_next9 _ HF7.out).mono ?_); rintro e w8 ⟨r8, hr8, rfl, hf8⟩; have HF8 := Lib.hid hf8; clear hf8)))
        all_goals
          have hfp := fop_new w8 23 n0 n1 (r6 : Int) (IntKind.i64.wrap (1 + (r7 : Int))) 1099511627776 (r8 : Int) (-1) 5
          have hf9 := HF8.out.alloc (.cells #[.int .i64 n0, .int .i64 n1, .int .i64 (r6 : Int), .int .i64 (IntKind.i64.wrap (1 + (r7 : Int))), .int .i64 1099511627776, .int .i64 (r8 : Int), .int .i64 (-1), .int .i64 5] 23)
          generalize (w8.alloc (.cells #[.int .i64 n0, .int .i64 n1, .int .i64 (r6 : Int), .int .i64 (IntKind.i64.wrap (1 + (r7 : Int))), .int .i64 1099511627776, .int .i64 (r8 : Int), .int .i64 (-1), .int .i64 5] 23)) = wA at *
          generalize w8.heap.size = ab at *
          have HFP := Lib.hid hfp
          have HFA := Lib.hid hf9
          clear hfp hf9 HF HF6 HF7 HF8
          go_wp2_with fail
          go_loopw [11, 12, 13, 14, 15, 89] (fun _ _ _ _ _ v89 wr => ∃ k : Nat, k ≤ 4 ∧ v89 = .int .i64 (k : Int) ∧ FoP wr ab ∧ FoL w n0 n1 u8 wr) (fun _ _ _ _ _ v89 _ => 4 - (intOf v89).toNat)
          case atStart => exact ⟨0, by omega, rfl, HFP.out, HFA.out⟩
          case round =>
            rename World => wB
            obtain ⟨j, hj4, rfl, hfp, hfl⟩ := hrel
            have HFP2 := Lib.hid hfp
            have HFL2 := Lib.hid hfl
            clear hfp hfl HFP HFA
            by_cases hlt : j < 4
            · have zj : (j : Int) < 4 := by omega
              have zj0 : (0 : Int) ≤ (j : Int) := by omega
              obtain ⟨x, y, cx, cy⟩ := HFP2.out.2 j hlt
              have hs1 := o_SlotA x y
              have hs2 := r_SlotA x y
              unfold SltQ at hs1 hs2
              generalize slotV x y = sv at hs1 hs2
              generalize slotZ x y = sz at hs1 hs2
              have HS1 := Lib.hid hs1
              have HS2 := Lib.hid hs2
              have hbk := Blk.new wB 23 #[.int .i64 x, .int .i64 y]
              have d0 := (hbk.cell 0).trans (show _ = some (Value.int .i64 x) from rfl)
              have d1 := (hbk.cell 1).trans (show _ = some (Value.int .i64 y) from rfl)
              clear hs1 hs2 hbk
              go_wp2_with fail
              refine (HS1.out _).mono ?_
              rintro e w6 ⟨rfl, rfl⟩
              go_wp2_with fail
              refine (HS2.out _).mono ?_
              rintro e w6 ⟨rfl, rfl⟩
              go_wp2_with fail
              go_roundw
              case measure => simp [intOf]; omega
              case rel =>
                first
                  | exact ⟨j + 1, by omega, by go_num, HFP2.out.step (fo_alloc _ _), HFL2.out.alloc _⟩
                  | ((repeat apply Exists.intro); exact ⟨⟨j + 1, by omega, by go_num, HFP2.out.step (fo_alloc _ _), HFL2.out.alloc _⟩, rfl⟩)
            · have zj : ¬ (j : Int) < 4 := by omega
              obtain ⟨L9, hj9, hf9⟩ := HFL2.out
              obtain ⟨A9, c9, hv9⟩ := hj9.slice
              subst hv9
              have HJ9 := Lib.hid hj9
              have HFW := Lib.hid hf9
              clear hj9 hf9
              go_wp2_with fail
              refine (o_awakeS _ (HL.out _ HJ9.out.k.old) (HSP.out _ HJ9.out.k.old)).mono ?_
              rintro e w6 ⟨rfl, hb6⟩
              have HJ6 := Lib.hid (HJ9.out.below hb6)
              clear hb6 HJ9
              have e0 := (HJ6.out.k.box.cell 0).trans (show _ = some (Value.int .i64 n0) from rfl)
              have hd7 := HJ6.out.k.dc.alloc (.cells #[.int .i64 1, .int .i64 2, .int .i64 3, .int .i64 0, .int .i64 256, .int .i64 257, .int .i64 n0] 3)
              have hj7 := HJ6.out.alloc (.cells #[.int .i64 1, .int .i64 2, .int .i64 3, .int .i64 0, .int .i64 256, .int .i64 257, .int .i64 n0] 3)
              have hlt6 := HJ6.out.k.lt
              have hof := p_Of (w.heap.size + 1) w6.heap.size 0 7 7 (ofS n0) _ hd7 (by simp) (by omega) (by omega) (by omega) (ofS_cells w6 n0)
              have HOF := Lib.hid hof
              have HJ7 := Lib.hid hj7
              clear hd7 hj7 hof
              go_wp2_with fail
              refine HOF.out.mono ?_
              rintro e w7 ⟨r9, hr9, rfl, hd8, hg8⟩
              have hj8 := HJ7.out.dice hd8 hg8
              have hag := f_agree seed A9 L9.length c9 L9 (ofS n0 r9) w7 (by omega) hj8.stms (by have := HFW.out.1; omega) hj8.oks HFW.out.few (ofS_in HN0.out hr9) (HL.out _ hj8.k.old) (HSP.out _ hj8.k.old)
              have HAG := Lib.hid hag
              have HOLD := Lib.hid hj8.k.old
              clear hd8 hg8 hj8 hag
              go_wp2_with fail
              refine HAG.out.mono ?_
              rintro e w8 ⟨rfl, hb8⟩
              have HB8 := Lib.hid (HOLD.out.trans (hb8.mono HOLD.out.size))
              clear hb8
              go_wp2_with fail
              go_ret
              exact ⟨rfl, HB8.out⟩
theorem f_order (A : Option Addr) (n c : Nat) (seed : ByteArray) (n0 n1 : Int) (w : World) (hl : LibOk w) (hsp : SpcOk w) (hn : n ≤ 9223372036854775807) (har : n ≤ 500 → ArgL w (.slice A n c)) (hn0 : -9223372036854775808 ≤ n0 ∧ n0 < 9223372036854775808) : Calls Tryz.prog 3 #[.slice A n c, .string seed, .agg #[.int .i64 n0, .int .i64 n1]] w (AwkO w) := by
  by_cases h5 : n ≤ 500
  · by_cases h6 : seed.size ≤ 100
    · exact f_order_main A n c seed n0 n1 w hl hsp hn h5 (har h5) h6 hn0
    · exact f_order_long A n c seed n0 n1 w hl hsp hn h5 h6
  · exact f_order_heavy A n c seed n0 n1 w hl hsp hn h5
end Go.Proofs.YtgbhaaongmlpkaaGreatDoor
