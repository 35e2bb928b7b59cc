/- Contracts: the plays' Condition. Contracts: the reference's group. Contract: play.Roll: it returns a roll of this prime. -/
import Derived.Test.YtgeahbmaeaoeeaaGreatDoorQ25
import Derived.Test.YtgeahbmaeaoeeaaGreatDoorQ02
import Derived.Test.YtgeahbmaeaoeeaaGreatDoorQ01
import Derived.Test.YtgeahbmaeaoeeaaGreatDoorQ04
import Derived.Deep.CutRange
import Derived.Deep.CutBlock
set_option linter.unusedVariables false
set_option linter.unusedSimpArgs false
namespace Go.Proofs.YtgeahbmaeaoeeaaGreatDoor.Pa
open Go.RowKit Num

/-- A condition of the plays: one term, or three. -/
theorem kit_argsP (k : Int) (ar : List Int) (h : ar.length ≤ 3) : KitT ⟨k, 0, 0, E0, E0, ar⟩ := ⟨by show (0 : Nat) ≤ 4; omega, by show (0 : Nat) ≤ 5; omega, (fun c hc => by cases hc), (fun c hc => by cases hc), h⟩
def PlC (w : World) (db : Nat) (e : Ending) (w' : World) : Prop := ∃ A n c L, e = .returned (.agg #[.slice A n c]) ∧ TermsAt w' (fun b => w.heap.size ≤ b ∧ b < w'.heap.size) (.slice A n c) L ∧ L.length ≤ 3 ∧ (∀ t ∈ L, KitT t) ∧ (rootF L).isSome = true ∧ Dc w' db ∧ w.grownBy w' (some db)
structure C2 (w W : World) (db : Nat) : Prop where
  dc : Dc W db
  box : Blk W w.heap.size 25 #[.pointer (some ⟨db, 0, none⟩)]
  res : Blk W (w.heap.size + 1) 58 #[.slice none 0 0]
  gw : w.grownBy W (some db)
  dl : db < w.heap.size
section
variable {w W W' : World} {db : Nat}
theorem C2.dice (h : C2 w W db) (hd : Dc W' db) (hg : W.grownBy W' (some db)) : C2 w W' db :=
  ⟨hd, (hg.block _ h.box.lt (by intro e; injection e; have := h.dl; omega)).trans h.box, (hg.block _ h.res.lt (by intro e; injection e; have := h.dl; omega)).trans h.res, gb_trans h.gw hg, h.dl⟩
theorem C2.alloc (h : C2 w W db) (o : Obj) : C2 w (W.alloc o) db := h.dice (h.dc.alloc o) (World.grownBy_alloc W o _)
theorem C2.bc (h : C2 w W db) : W.cell? ⟨w.heap.size, 0, none⟩ = some (.pointer (some ⟨db, 0, none⟩)) := (h.box.cell 0).trans rfl
theorem C2.rc (h : C2 w W db) : W.cell? ⟨w.heap.size + 1, 0, none⟩ = some (.slice none 0 0) := (h.res.cell 0).trans rfl
theorem C2.rf (h : C2 w W db) : W.frozen? ⟨w.heap.size + 1, 0, none⟩ = false := h.res.frozen 0
/-- The terms are stored as the result. -/
theorem C2.fin (h : C2 w W db) {A : Option Addr} {n c : Nat} {L : List Trm} (hT : TermsAt W (fun b => w.heap.size + 1 < b ∧ b < W.heap.size) (.slice A n c) L) (hl : L.length ≤ 3) (hk : ∀ t ∈ L, KitT t) (hr : (rootF L).isSome = true) :
    PlC w db (.returned (.agg #[.slice A n c])) (W.setCell ⟨w.heap.size + 1, 0, none⟩ (.slice A n c)) ∧ (W.setCell ⟨w.heap.size + 1, 0, none⟩ (.slice A n c)).cell? ⟨w.heap.size + 1, 0, none⟩ = some (.slice A n c) := by
  have hg : W.grownBy (W.setCell ⟨w.heap.size + 1, 0, none⟩ (.slice A n c)) (some (w.heap.size + 1)) := grown_setCell W ⟨w.heap.size + 1, 0, none⟩ _
  have h1 := h.dl
  refine ⟨⟨A, n, c, L, rfl, (hT.keep fun b hb => hg.block b hb.2 (by intro e; injection e; omega)).mono fun b hb => ⟨by omega, by have := hg.size; omega⟩, hl, hk, hr, h.dc.keep fun q hq => hg.block q (by have := h.dc.lt; omega) (by intro e; injection e; omega), ?_⟩, World.cell?_setCell_same W ⟨w.heap.size + 1, 0, none⟩ _ h.rc⟩
  exact ⟨hg.os.trans h.gw.os, hg.tape.trans h.gw.tape, hg.output.trans h.gw.output, Nat.le_trans h.gw.size hg.size, fun q hq hne => (hg.block q (Nat.lt_of_lt_of_le hq h.gw.size) (by intro e; injection e; omega)).trans (h.gw.block q hq hne)⟩
end
theorem term_none {W : World} {S : Nat → Prop} {g off : Nat} {k n y : Int} {f x : ByteArray} (c0 : W.cell? ⟨g, off, none⟩ = some (.int .i64 k)) (c1 : W.cell? ⟨g, off + 1, none⟩ = some (.int .i64 n)) (c2 : W.cell? ⟨g, off + 2, none⟩ = some (.int .i64 y)) (c3 : W.cell? ⟨g, off + 3, none⟩ = some (.string f)) (c4 : W.cell? ⟨g, off + 4, none⟩ = some (.string x)) (c5 : W.cell? ⟨g, off + 5, none⟩ = some (.slice none 0 0)) :
    TermAt W S g off ⟨k, n, y, f, x, []⟩ := ⟨c0, c1, c2, c3, c4, _, c5, none, 0, 0, rfl, rfl, Nat.le_refl _, fun h => absurd h (Nat.lt_irrefl 0)⟩
theorem terms_one {W : World} {S : Nat → Prop} {g : Nat} {k n y : Int} {f x : ByteArray} (h : Blk W g 115 (trmC k n y f x)) (hS : S g) : TermsAt W S (.slice (some ⟨g, 0, none⟩) 1 1) [⟨k, n, y, f, x, []⟩] := by
  refine ⟨_, 1, 1, rfl, rfl, Nat.le_refl _, fun _ => ⟨g, 0, rfl, hS, fun q hq => ?_⟩⟩
  obtain rfl : q = 0 := by omega
  exact term_none (h.cell 0) (h.cell 1) (h.cell 2) (h.cell 3) (h.cell 4) (h.cell 5)
theorem terms_three {W : World} {S : Nat → Prop} {g a : Nat} {k0 k n y k' n' y' : Int} {f x f' x' : ByteArray}
    (h : Blk W g 115 #[.int .i64 k0, .int .i64 0, .int .i64 0, .string ⟨#[]⟩, .string ⟨#[]⟩, .slice (some ⟨a, 0, none⟩) 2 2, .int .i64 k, .int .i64 n, .int .i64 y, .string f, .string x, .slice none 0 0, .int .i64 k', .int .i64 n', .int .i64 y', .string f', .string x', .slice none 0 0])
    (ha : Blk W a 3 #[.int .i64 1, .int .i64 2]) (hS : S g) (hSa : S a) : TermsAt W S (.slice (some ⟨g, 0, none⟩) 3 3) [⟨k0, 0, 0, E0, E0, [1, 2]⟩, ⟨k, n, y, f, x, []⟩, ⟨k', n', y', f', x', []⟩] := by
  refine ⟨_, 3, 3, rfl, rfl, Nat.le_refl _, fun _ => ⟨g, 0, rfl, hS, fun q hq => ?_⟩⟩
  have hq3 : q = 0 ∨ q = 1 ∨ q = 2 := by omega
  rcases hq3 with rfl | rfl | rfl
  · refine ⟨h.cell 0, h.cell 1, h.cell 2, h.cell 3, h.cell 4, _, h.cell 5, _, 2, 2, rfl, rfl, Nat.le_refl _, fun _ => ⟨a, 0, rfl, hSa, fun j hj => ?_⟩⟩
    have hj2 : j = 0 ∨ j = 1 := by omega
    rcases hj2 with rfl | rfl
    · exact ha.cell 0
    · exact ha.cell 1
  · exact term_none (h.cell 6) (h.cell 7) (h.cell 8) (h.cell 9) (h.cell 10) (h.cell 11)
  · exact term_none (h.cell 12) (h.cell 13) (h.cell 14) (h.cell 15) (h.cell 16) (h.cell 17)
def of12 : Nat → Int := fun i => if i = 0 then 1 else 2
set_option maxRecDepth 100000 in
set_option maxHeartbeats 4000000 in
theorem p_Condition (db : Nat) (w : World) (hd : Dc w db) :
    Calls Tryz.prog 55 #[.pointer (some ⟨db, 0, none⟩)] w (PlC w db) := by
  have hmf : ∀ (fn : Fn) (first cap : Array Value) (w : World), (Instr.makeFunc fn first cap).run Tryz.prog w = .ok (.func fn first cap) w := fun _ _ _ _ => rfl
  have hlt := hd.lt
  have h1 : C2 w ((w.alloc (.cells #[.pointer (some ⟨db, 0, none⟩)] 25)).alloc (.cells #[.slice none 0 0] 58)) db := by
    refine ⟨(hd.alloc _).alloc _, (Blk.new w _ _).alloc _, ?_, gb_trans (World.grownBy_alloc w _ (some db)) (World.grownBy_alloc _ _ (some db)), hlt⟩
    have := Blk.new (w.alloc (.cells #[.pointer (some ⟨db, 0, none⟩)] 25)) 58 #[.slice none 0 0]
    rwa [World.size_alloc] at this
  have H1 := Lib.hid h1
  have b1 := h1.bc
  have HC := Lib.hid (fun (W : World) (h : C2 w W db) => p_Cond1 db w.heap.size W h.dc h.box (by omega))
  clear hd h1
  go_enter Tryz.func55, Tryz.ntmps55
  go_wp2_with fail
  refine (p_One db 4 _ H1.out.dc (by omega) (by omega)).mono ?_
  rintro e w2 ⟨x, rfl, hd2, hg2⟩
  have H2 := Lib.hid (H1.out.dice hd2 hg2)
  have b2 := H2.out.bc
  clear H1 b1 hd2 hg2
  cases x
  · go_wp2_with fail
    refine (HC.out _ H2.out).mono ?_
    rintro e w3 ⟨k, n, y, f, x, rfl, hk, hd3, hg3⟩
    have H3 := Lib.hid (H2.out.dice hd3 hg3)
    have HK := Lib.hid hk
    have r3 := H3.out.rc
    have f3 := H3.out.rf
    have l3 := H3.out.res.lt
    clear hd3 hg3 hk H2 b2
    unfold trmC
    go_wp2_with fail
    obtain ⟨fin, x0⟩ := (H3.out.alloc (.cells (trmC k n y f x) 115)).fin (terms_one (S := fun b => w.heap.size + 1 < b ∧ b < (w3.alloc (.cells (trmC k n y f x) 115)).heap.size) (Blk.new w3 _ _) ⟨l3, by simp⟩) (by show 1 ≤ 3; omega) (fun t ht => by rw [List.mem_singleton.1 ht]; exact HK.out.1) (root_one HK.out)
    rw [World.setCell_alloc_past _ _ _ _ l3] at fin x0
    unfold trmC at fin x0
    refine bodyPost_ret (v := .agg #[.slice (some ⟨w3.heap.size, 0, none⟩) 1 1]) ?_ rfl fin
    simp [results, Tryz.results55, go_sem, x0]
  · go_wp2_with fail
    have l2 := H2.out.dc.lt
    have l2r := H2.out.res.lt
    have hb2 := Blk.new w2 3 #[.int .i64 1, .int .i64 2]
    refine (p_Of db w2.heap.size 0 2 2 of12 _ (H2.out.dc.alloc _) (by simp) (by omega) (by omega) (by omega) (fun i hi => ?_)).mono ?_
    · have h2 : i = 0 ∨ i = 1 := by omega
      rcases h2 with rfl | rfl
      · exact hb2.cell 0
      · exact hb2.cell 1
    rintro e w3 ⟨r, hr, rfl, hd3, hg3⟩
    have hk12 : of12 r = 1 ∨ of12 r = 2 := by unfold of12; by_cases h : r = 0
                                              · exact .inl (if_pos h)
                                              · exact .inr (if_neg h)
    revert hk12
    generalize of12 r = k0
    intro hk12
    have HK12 := Lib.hid hk12
    clear hk12
    have H3 := Lib.hid ((H2.out.alloc _).dice hd3 hg3)
    have s3 := hg3.size
    simp only [World.size_alloc] at s3
    have b3 := (H3.out.alloc (.cells #[.int .i64 1, .int .i64 2] 3)).bc
    clear H2 b2 hb2 hd3 hg3
    go_wp2_with fail
    refine (HC.out _ (H3.out.alloc _)).mono ?_
    rintro e w4 ⟨k, n, y, f, x, rfl, hk, hd4, hg4⟩
    have s4 := hg4.size
    simp only [World.size_alloc] at s4
    have hi4 : Blk w4 w3.heap.size 3 #[.int .i64 1, .int .i64 2] := (hg4.block w3.heap.size (by simp) (by intro e; injection e; omega)).trans (Blk.new w3 _ _)
    have H4 := Lib.hid ((H3.out.alloc _).dice hd4 hg4)
    have HK := Lib.hid hk
    have HI4 := Lib.hid hi4
    have b4 := H4.out.bc
    clear hd4 hg4 hk hi4 H3 b3
    unfold trmC
    go_wp2_with fail
    refine (HC.out _ H4.out).mono ?_
    rintro e w5 ⟨k', n', y', f', x', rfl, hk', hd5, hg5⟩
    have s5 := hg5.size
    have hi5 : Blk w5 w3.heap.size 3 #[.int .i64 1, .int .i64 2] := (hg5.block w3.heap.size (by omega) (by intro e; injection e; omega)).trans HI4.out
    have H5 := Lib.hid (H4.out.dice hd5 hg5)
    have HK' := Lib.hid hk'
    have HI5 := Lib.hid hi5
    have r5 := H5.out.rc
    have f5 := H5.out.rf
    have l5 := H5.out.res.lt
    clear hd5 hg5 hk' hi5 H4 b4 HI4
    unfold trmC
    go_wp2_with fail
    obtain ⟨fin, x0⟩ := (H5.out.alloc (.cells #[.int .i64 k0, .int .i64 0, .int .i64 0, .string ⟨#[]⟩, .string ⟨#[]⟩, .slice (some ⟨w3.heap.size, 0, none⟩) 2 2, .int .i64 k, .int .i64 n, .int .i64 y, .string f, .string x, .slice none 0 0, .int .i64 k', .int .i64 n', .int .i64 y', .string f', .string x', .slice none 0 0] 115)).fin (terms_three (S := fun b => w.heap.size + 1 < b ∧ b < (w5.alloc (.cells #[.int .i64 k0, .int .i64 0, .int .i64 0, .string ⟨#[]⟩, .string ⟨#[]⟩, .slice (some ⟨w3.heap.size, 0, none⟩) 2 2, .int .i64 k, .int .i64 n, .int .i64 y, .string f, .string x, .slice none 0 0, .int .i64 k', .int .i64 n', .int .i64 y', .string f', .string x', .slice none 0 0] 115)).heap.size) (Blk.new w5 _ _) (HI5.out.alloc _) ⟨l5, by simp⟩ ⟨by omega, by simp; omega⟩) (by show 3 ≤ 3; omega) (fun t ht => by
      simp only [List.mem_cons, List.not_mem_nil, or_false] at ht
      rcases ht with rfl | rfl | rfl
      · exact kit_argsP _ _ (by show 2 ≤ 3; omega)
      · exact HK.out.1
      · exact HK'.out.1) (root_three HK12.out HK.out HK'.out)
    rw [World.setCell_alloc_past _ _ _ _ l5] at fin x0
    refine bodyPost_ret (v := .agg #[.slice (some ⟨w5.heap.size, 0, none⟩) 3 3]) ?_ rfl fin
    simp [results, Tryz.results55, go_sem, x0]
end Go.Proofs.YtgeahbmaeaoeeaaGreatDoor.Pa
namespace Go.Proofs.YtgeahbmaeaoeeaaGreatDoor
open Go.RowKit Num Classical

def IPost (a : Int) (w : World) (e : Ending) (w' : World) : Prop := e = .returned (.int .i64 a) ∧ w = w'
set_option maxHeartbeats 600000 in
theorem r_power (m x e : Nat) (w : World) (h1 : 2 ≤ m) (h2 : m ≤ 2147483648) (hx : x < 2147483648) (he : e < 9223372036854775808) :
    Calls Tryz.prog 76 #[.int .i64 (m : Int), .int .i64 (x : Int), .int .i64 (e : Int)] w (IPost (pw m x e : Int) w) := by
  go_enter Tryz.func76, Tryz.ntmps76
  go_wp2
  go_loop [7, 1, 2] (fun o y t => ∃ o' x' t' : Nat, o = .int .i64 o' ∧ y = .int .i64 x' ∧ t = .int .i64 t' ∧ o' < m ∧ x' < 2147483648 ∧ t' < 9223372036854775808 ∧ o' * x' ^ t' % m = pw m x e) (fun _ _ t => (intOf t).toNat)
  case atStart => exact ⟨1, x, e, rfl, rfl, rfl, by omega, hx, he, by rw [Nat.one_mul]; rfl⟩
  case round =>
    obtain ⟨o', x', t', rfl, rfl, rfl, ho', hx', ht', hr⟩ := hrel
    have hR := Lib.hid hr
    clear hr
    have ha := Lib.hid (and_1 t' ht')
    have hs := Nat.mod_lt (x' * x') (show 0 < m by omega)
    have hs2 := Nat.mod_lt (o' * x') (show 0 < m by omega)
    have q1 := mul_bd hx' hx' (Nat.le_refl _)
    have q2 := mul_bd (show o' < 2147483648 by omega) hx' (Nat.le_refl _)
    have E1 := Lib.hid (cast_mul_mod x' x' m)
    have E2 := Lib.hid (cast_mul_mod o' x' m)
    by_cases h0 : 0 < t'
    · rcases Nat.mod_two_eq_zero_or_one t' with hp | hp
      · have c : (bits .and .i64 (t' : Int) 1 == 1) = false := by rw [ha.out, hp]; rfl
        go_wp2
        go_round
        case rel => exact ⟨o', x' * x' % m, t' / 2, by go_num, by congr 1, by go_num, ho', by omega, by omega, by rw [step_even m o' x' t' hp]; exact hR.out⟩
        case measure => simp [intOf]; omega
      · have c : (bits .and .i64 (t' : Int) 1 == 1) = true := by rw [ha.out, hp]; rfl
        go_wp2
        go_round
        case rel => exact ⟨o' * x' % m, x' * x' % m, t' / 2, by congr 1, by congr 1, by go_num, by omega, by omega, by omega, by rw [step_odd m o' x' t' hp]; exact hR.out⟩
        case measure => simp [intOf]; omega
    · have h0' : t' = 0 := by omega
      subst h0'
      go_wp2
      go_ret
      exact ⟨ret_int (by have := hR.out; rw [Nat.pow_zero, Nat.mul_one, Nat.mod_eq_of_lt ho'] at this; rw [← this]), rfl⟩
theorem r_powerI (m x : Nat) (e : Int) (w : World) (h1 : 2 ≤ m) (h2 : m ≤ 2147483648) (hx : x < 2147483648) (h0 : 0 ≤ e) (he : e < 9223372036854775808) :
    Calls Tryz.prog 76 #[.int .i64 (m : Int), .int .i64 (x : Int), .int .i64 e] w (IPost (pw m x e.toNat : Int) w) := by
  obtain ⟨n, rfl⟩ := Int.eq_ofNat_of_zero_le h0
  exact r_power m x n w h1 h2 hx (by omega)
theorem elem_eq (p : Nat) (n : Int) (h1 : 1 ≤ p) : ((n.tmod (p : Int)) + (p : Int)).tmod (p : Int) = n % (p : Int) := by
  have a1 := Int.tmod_lt_of_pos n (b := (p : Int)) (by omega)
  have a2 : -(p : Int) < n.tmod (p : Int) := Int.lt_tmod_of_pos n (by omega)
  rw [Int.tmod_eq_emod_of_nonneg (by omega), Int.add_emod_right]
  have h3 : n = (p : Int) * n.tdiv p + n.tmod p := (Int.mul_tdiv_add_tmod n p).symm
  conv => rhs; rw [h3]
  rw [Int.add_comm, Int.add_mul_emod_self_left]
set_option maxHeartbeats 400000 in
theorem r_Element (p : Nat) (n : Int) (w : World) (h1 : 1 ≤ p) (h2 : p ≤ 2147483648) :
    Calls Tryz.prog 77 #[.int .i64 (p : Int), .int .i64 n] w (IPost (n % p) w) := by
  have a1 := Int.tmod_lt_of_pos n (b := (p : Int)) (by omega)
  have a2 : -(p : Int) < n.tmod (p : Int) := Int.lt_tmod_of_pos n (by omega)
  have E := Lib.hid (elem_eq p n h1)
  go_enter Tryz.func77, Tryz.ntmps77
  go_wp2
  go_ret
  refine ⟨ret_int ?_, rfl⟩
  rw [← Int.tmod_eq_emod_of_nonneg (by omega)]
  exact E.out
set_option maxHeartbeats 400000 in
theorem r_PowerG (p x : Nat) (e : Int) (w : World) (h0 : 1 ≤ p) (h2 : p ≤ 1073741823) (hx : x < 2147483648) :
    Calls Tryz.prog 53 #[.int .i64 (p : Int), .int .i64 (x : Int), .int .i64 e] w (IPost (pw (2 * p + 1) x (e % p).toNat : Int) w) := by
  have h3 := Int.emod_nonneg e (show (p : Int) ≠ 0 by omega)
  have h4 := Int.emod_lt_of_pos e (show 0 < (p : Int) by omega)
  have hp := fun W => r_powerI (2 * p + 1) x (e % p) W (by omega) (by omega) hx h3 (by omega)
  simp only [show ((2 * p + 1 : Nat) : Int) = 2 * (p : Int) + 1 by omega] at hp
  have HP := Lib.hid hp
  clear hp
  go_enter Tryz.func53, Tryz.ntmps53
  go_wp2_with fail
  refine (r_Element p e _ h0 (by omega)).mono ?_
  rintro r w' ⟨rfl, rfl⟩
  go_wp2_with fail
  refine (HP.out _).mono ?_
  rintro r w' ⟨rfl, rfl⟩
  go_wp2_with fail
  go_ret
  exact ⟨rfl, rfl⟩
end Go.Proofs.YtgeahbmaeaoeeaaGreatDoor
namespace Go.Proofs.YtgeahbmaeaoeeaaGreatDoor.Pa
open Go.RowKit Num

theorem infoPe : (Tryz.prog.info? 80).map (fun i => (i.zero, i.size, i.bytes)) = some (some (.agg #[.int .i64 0, .int .i64 0, .int .i64 0]), 3, 24) := by kernel_rfl
structure RSt (w W : World) (db tb : Nat) (v : Value) (n : Nat) (xs : List Value) : Prop where
  dc : Dc W db
  blk : Blk W tb 50 #[.int .i64 500000003, v]
  row : W.ownsRow tb 80 3 v n xs
  res : Blk W w.heap.size 50 #[.int .i64 0, .slice none 0 0]
  gw : w.grownBy W (some db)
  dlt : db < w.heap.size
  tlt : w.heap.size < tb
section
variable {w W W' : World} {db tb n : Nat} {v v' : Value} {xs : List Value}
theorem RSt.keep (h : RSt w W db tb v n xs) (hd : Dc W' db) {row : Option Nat} (hg : W.grownBy W' row) (hr : ∀ q, row = some q → q = db) : RSt w W' db tb v n xs := by
  have h1 := h.dlt
  have h2 := h.tlt
  have l1 := h.blk.lt
  have l2 := h.res.lt
  have kb : ∀ q, q < W.heap.size → q ≠ db → W'.heap[q]? = W.heap[q]? := fun q hq hne => hg.block q hq (fun e => hne (hr q e.symm))
  have kr : v.ownBlock = none ∨ v.ownBlock ≠ row := by
    rcases hb : v.ownBlock with _ | q
    · exact .inl rfl
    · refine .inr fun e => ?_
      have e2 := hr q e.symm
      have := (h.row.lt q hb).1
      omega
  exact ⟨hd, (kb tb l1 (by omega)).trans h.blk, h.row.kept hg kr, (kb _ l2 (by omega)).trans h.res,
    ⟨hg.os.trans h.gw.os, hg.tape.trans h.gw.tape, hg.output.trans h.gw.output, Nat.le_trans h.gw.size hg.size, fun q hq hne => (kb q (by have := h.gw.size; omega) (fun e => hne (by rw [e]))).trans (h.gw.block q hq hne)⟩, h1, h2⟩
theorem RSt.dice (h : RSt w W db tb v n xs) (hd : Dc W' db) (hg : W.grownBy W' (some db)) : RSt w W' db tb v n xs := h.keep hd hg (fun q hq => (Option.some.inj hq).symm)
theorem RSt.alloc (h : RSt w W db tb v n xs) (o : Obj) : RSt w (W.alloc o) db tb v n xs := h.keep (h.dc.alloc o) (World.grownBy_alloc W o none) (fun q hq => by cases hq)
theorem RSt.drew (h : RSt w W db tb v n xs) : RSt w W.drew db tb v n xs := h.keep h.dc.drew (row := none) (only_drewN (World.grownBy.refl W _) 1) (fun q hq => by cases hq)
theorem RSt.c1 (h : RSt w W db tb v n xs) : W.cell? ⟨tb, 1, none⟩ = some v := (h.blk.cell 1).trans rfl
/-- A person is put behind the others. -/
theorem RSt.push (h : RSt w W db tb v n xs) {o : Obj} {ys : List Value} (hown : W'.ownsRow tb 80 3 v' (n + 1) ys) (hg : (W.alloc o).grownBy W' v.ownBlock) :
    RSt w (W'.setCell ⟨tb, 1, none⟩ v') db tb v' (n + 1) ys ∧ W'.cell? ⟨tb, 1, none⟩ = some v ∧ W'.frozen? ⟨tb, 1, none⟩ = false := by
  have hs := hg.size
  simp only [World.size_alloc] at hs
  have h1 := h.dlt
  have h2 := h.tlt
  have l1 := h.blk.lt
  have l2 := h.res.lt
  have hv : ∀ g, v.ownBlock = some g → tb < g := own_above h.row h.blk (by decide)
  have kb : ∀ q, q < W.heap.size → v.ownBlock ≠ some q → W'.heap[q]? = W.heap[q]? := fun q hq hne => (hg.block q (by simp; omega) (fun e => hne e.symm)).trans (Below.heap_alloc W o q hq)
  have kl : ∀ q, q ≤ tb → W'.heap[q]? = W.heap[q]? := fun q hq => kb q (by omega) (fun e => by have := hv q e; omega)
  have hd : Dc W' db := h.dc.keep fun q hq => kl q (by have := h.dc.lt; omega)
  have hb : Blk W' tb 50 #[.int .i64 500000003, v] := (kl tb (Nat.le_refl _)).trans h.blk
  have hr : Blk W' w.heap.size 50 #[.int .i64 0, .slice none 0 0] := (kl _ (by omega)).trans h.res
  have hgw : w.grownBy W' (some db) := ⟨hg.os.trans h.gw.os, hg.tape.trans h.gw.tape, hg.output.trans h.gw.output, by have := h.gw.size; omega, fun q hq hne => (kl q (by omega)).trans (h.gw.block q hq hne)⟩
  have hset : W'.grownBy (W'.setCell ⟨tb, 1, none⟩ v') (some tb) := grown_setCell W' ⟨tb, 1, none⟩ v'
  have hav : ∀ g, v'.ownBlock = some g → tb < g := own_above hown hb (by decide)
  refine ⟨⟨hd.keep fun q hq => hset.block q (by have := hd.lt; omega) (fun e => by injection e; omega), hb.set_ 1 v', hown.kept hset (.inr fun e => by have := hav tb e; omega), (hset.block _ hr.lt (fun e => by injection e; omega)).trans hr, ?_, h1, h2⟩, (hb.cell 1).trans rfl, hb.frozen 1⟩
  exact ⟨hset.os.trans hgw.os, hset.tape.trans hgw.tape, hset.output.trans hgw.output, Nat.le_trans hgw.size hset.size, fun q hq hne => (hset.block q (Nat.lt_of_lt_of_le hq hgw.size) (fun e => by injection e; omega)).trans (hgw.block q hq hne)⟩
end
def RolE (w : World) (db : Nat) (e : Ending) (w' : World) : Prop := ∃ A n c, e = .returned (.agg #[.int .i64 500000003, .slice A n c]) ∧ Dc w' db ∧ w.grownBy w' (some db)
/-- The result is stored. -/
theorem RSt.fin {w W : World} {db tb n : Nat} {v : Value} {xs : List Value} (h : RSt w W db tb v n xs) : ∃ A c, v = .slice A n c ∧
    ∀ W2, W2 = (W.setCell ⟨w.heap.size, 0, none⟩ (.int .i64 500000003)).setCell ⟨w.heap.size, 1, none⟩ v → RolE w db (.returned (.agg #[.int .i64 500000003, v])) W2 ∧ Blk W2 w.heap.size 50 #[.int .i64 500000003, v] := by
  obtain ⟨A, c, rfl⟩ := own_slice h.row
  refine ⟨A, c, rfl, fun W2 hW2 => ?_⟩
  have hc : Chg W W2 (fun q => q = w.heap.size) := by
    rw [hW2]
    exact Chg.setCell (Chg.setCell (Chg.refl W (fun q => q = w.heap.size)) ⟨w.heap.size, 0, none⟩ (fun _ => rfl) _) ⟨w.heap.size, 1, none⟩ (fun _ => rfl) _
  have hb : Blk W2 w.heap.size 50 #[.int .i64 500000003, .slice A n c] := by
    rw [hW2]
    exact (h.res.set_ 0 _).set_ 1 _
  have hs := hc.size
  have h1 := h.dlt
  refine ⟨⟨A, n, c, rfl, h.dc.keep fun q hq => hc.block q (by have := h.dc.lt; omega) (by omega), ?_⟩, hb⟩
  exact ⟨hc.os.trans h.gw.os, hc.tape.trans h.gw.tape, hc.output.trans h.gw.output, Nat.le_trans h.gw.size hs, fun q hq hne => (hc.block q (Nat.lt_of_lt_of_le hq h.gw.size) (by omega)).trans (h.gw.block q hq hne)⟩
theorem r_PublicA (k : Int) (w : World) : Calls Tryz.prog 31 #[.int .i64 500000003, .int .i64 k] w (fun e w' => ∃ K : Int, e = .returned (.int .i64 K) ∧ w = w') := by
  have hp := r_PowerG 500000003 4 k w (by omega) (by omega) (by omega)
  have HP := Lib.hid hp
  clear hp
  go_enter Tryz.func31, Tryz.ntmps31
  go_wp2_with fail
  refine (HP.out).mono ?_
  rintro e w1 ⟨rfl, rfl⟩
  go_wp2_with fail
  go_ret
  exact ⟨_, rfl, rfl⟩
set_option maxRecDepth 100000 in
set_option maxHeartbeats 4000000 in
theorem p_Roll (db : Nat) (w : World) (hd : Dc w db) : Calls Tryz.prog 14 #[.pointer (some ⟨db, 0, none⟩), .int .i64 500000003, .int .i64 3] w (RolE w db) := by
  obtain ⟨i0, hi, hz0, hz1, hz2⟩ := info_parts infoPe
  have hlt := hd.lt
  have h1 : RSt w ((w.alloc (.cells #[.int .i64 0, .slice none 0 0] 50)).alloc (.cells #[.int .i64 500000003, .slice none 0 0] 50)) db (w.heap.size + 1) (.slice none 0 0) 0 [] := by
    refine ⟨(hd.alloc _).alloc _, ?_, World.ownsRow_nil _ _ _ _, (Blk.new w _ _).alloc _, gb_trans (World.grownBy_alloc w _ (some db)) (World.grownBy_alloc _ _ (some db)), hlt, by omega⟩
    have := Blk.new (w.alloc (.cells #[.int .i64 0, .slice none 0 0] 50)) 50 #[.int .i64 500000003, .slice none 0 0]
    rwa [World.size_alloc] at this
  have H1 := Lib.hid h1
  have HPU := Lib.hid r_PublicA
  have HN3 : Hid (∀ W : World, Dc W db → Calls Tryz.prog 8 #[.pointer (some ⟨db, 0, none⟩), .int .i64 3] W fun e W' => ∃ r : Nat, r < 3 ∧ e = .returned (.int .i64 (r : Int)) ∧ Dc W' db ∧ W.grownBy W' (some db)) := Lib.hid fun W h => k_Next db 3 W h (by omega) (by omega)
  clear hd h1
  go_enter Tryz.func14, Tryz.ntmps14
  go_wp2_with fail
  refine (k_Next db 4 _ H1.out.dc (by omega) (by omega)).mono ?_
  rintro e w2 ⟨n, hn, rfl, hd2, hg2⟩
  have H2 := Lib.hid (H1.out.dice hd2 hg2)
  clear H1 hd2 hg2
  obtain ⟨tb, htb⟩ : ∃ tb, w.heap.size + 1 = tb := ⟨_, rfl⟩
  rw [htb] at H2
  try rw [htb]
  have tlt : w.heap.size < tb := by omega
  clear htb
  go_wp2_with fail
  go_loopw [9] (fun v9 wr => ∃ (i : Nat) (v : Value) (xs : List Value), 1 ≤ i ∧ i ≤ n + 1 ∧ v9 = .int .i64 (i : Int) ∧ RSt w wr db tb v (i - 1) xs) (fun v9 _ => 5 - (intOf v9).toNat)
  case atStart => exact ⟨1, _, _, by omega, by omega, rfl, H2.out⟩
  case round =>
    obtain ⟨i, v, xs, hi1, hin, rfl, hr⟩ := hrel
    rename World => wr
    have HR := Lib.hid hr
    clear hr
    by_cases hle : i ≤ n
    · have zi : (i : Int) ≤ (n : Int) := by omega
      have b0 := HR.out.drew.c1
      have HRD := Lib.hid HR.out.drew
      have i4 : i ≤ 4 := by omega
      go_upto_region 6 with fail
      go_region_law (first
        | (refine step_append_lies _ (by rfl) _ _ _ (by rfl) tb 80 i0 _ 3 24 Tryz.underlying48 hi hz0 hz1 hz2 rfl (by omega) v (i - 1) xs (by rfl) (E9.out.alloc _) ⟨w9.heap.size, 0, none⟩ 1 1 [.int .i64 (i : Int), .int .i64 K, .int .i64 (r : Int)] (by rfl) (by rfl) (World.news_of_block (cs := #[.int .i64 (i : Int), .int .i64 K, .int .i64 (r : Int)]) (t := 80) (fr := (0, 0)) (heap_alloc_new w9 _)) (by intro u hu; simp at hu; rcases hu with rfl | rfl | rfl <;> rfl) (by omega) (by simp only [maxLen]; omega) (by omega) (by simp; omega) (w9.heap.size + 1) (by simp) ?_; intro gg cap w10 hown10 hgr10 hat10 hlt10; have MO := Lib.hid (H9.out.push hown10 hgr10); have mc := MO.out.2.1; have mf := MO.out.2.2; clear hown10 hgr10 hat10)
        | ((try go_simp); go_at_call 31; ((with_reducible refine (HPU.out _ _).mono ?_); rintro e wk ⟨K, rfl, rfl⟩))
        | ((try go_simp); go_at_call 8; ((with_reducible refine (HN3.out _ HRD.out.dc).mono ?_); rintro e w9 ⟨r, hr, rfl, hd9, hg9⟩; have h9 := HRD.out.dice hd9 hg9; have H9 := Lib.hid h9; have d0 := h9.c1; have d3 := (fun o => (h9.alloc o).c1); have E9 := Lib.hid h9.row; have l9 := h9.blk.lt; clear h9 hd9 hg9)))
      all_goals
        go_wp2_with fail
        go_roundw
        case measure => simp [intOf]; omega
        case rel => exact ⟨i + 1, _, _, by omega, by omega, by go_num, by have := MO.out.1; rw [show i - 1 + 1 = i by omega] at this; rw [show i + 1 - 1 = i by omega]; exact this⟩
    · have zi : ¬ (i : Int) ≤ (n : Int) := by omega
      obtain ⟨A, c, rfl, fin⟩ := HR.out.fin
      have FIN := Lib.hid fin
      obtain ⟨m, hm⟩ : ∃ m, i - 1 = m := ⟨_, rfl⟩
      rw [hm] at HR FIN
      have c0 := (HR.out.blk.cell 0).trans (show _ = some (Value.int .i64 500000003) from rfl)
      have c1 := (HR.out.blk.cell 1).trans (show _ = some (Value.slice A m c) from rfl)
      have r0 := (HR.out.res.cell 0).trans (show _ = some (Value.int .i64 0) from rfl)
      have r1 := (HR.out.res.cell 1).trans (show _ = some (Value.slice none 0 0) from rfl)
      have g0 := HR.out.res.frozen 0
      have g1 := HR.out.res.frozen 1
      clear fin hm
      go_wp2_with fail
      obtain ⟨fin, hb⟩ := FIN.out _ rfl
      refine bodyPost_ret (v := .agg #[.int .i64 500000003, .slice A m c]) ?_ rfl fin
      simp [results, Tryz.results14, go_sem, (hb.cell 0).trans (show _ = some (Value.int .i64 500000003) from rfl), (hb.cell 1).trans (show _ = some (Value.slice A m c) from rfl)]
end Go.Proofs.YtgeahbmaeaoeeaaGreatDoor.Pa
