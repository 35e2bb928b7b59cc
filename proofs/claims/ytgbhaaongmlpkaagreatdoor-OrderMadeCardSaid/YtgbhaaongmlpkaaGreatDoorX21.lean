/- Contracts: the plays' One, Of and a term of their Condition. Contracts: the plays' Condition. Slices of slices: their value under one name. -/
import Derived.Test.YtgbhaaongmlpkaaGreatDoorX19
import Derived.Test.YtgbhaaongmlpkaaGreatDoorX20
import Derived.Test.YtgbhaaongmlpkaaGreatDoorX03
set_option linter.unusedVariables false
set_option linter.unusedSimpArgs false
namespace Go.Proofs.YtgbhaaongmlpkaaGreatDoor
open Go.RowKit Num

def OnePost (b : Nat) (w : World) (e : Ending) (w' : World) : Prop := ∃ x : Bool, e = .returned (.bool x) ∧ Dc w' b ∧ w.grownBy w' (some b)
theorem p_One (b n : Nat) (w : World) (hd : Dc w b) (h1 : 1 ≤ n) (h2 : n ≤ 1000000) :
    Calls Tryz.prog 20 #[.pointer (some ⟨b, 0, none⟩), .int .i64 (n : Int)] w (OnePost b w) := by
  have HD := Lib.hid hd
  clear hd
  go_enter Tryz.func20, Tryz.ntmps20
  go_wp2_with fail
  refine (k_Next b n _ HD.out h1 (by omega)).mono ?_
  rintro e w1 ⟨r, hr, rfl, hd1, hg1⟩
  have HD1 := Lib.hid hd1
  have HG1 := Lib.hid hg1
  clear hd1 hg1
  go_wp2_with fail
  go_ret
  exact ⟨_, rfl, HD1.out, HG1.out⟩
def OfPost (b n : Nat) (ss : Nat → Int) (w : World) (e : Ending) (w' : World) : Prop := ∃ r : Nat, r < n ∧ e = .returned (.int .i64 (ss r)) ∧ Dc w' b ∧ w.grownBy w' (some b)
set_option maxHeartbeats 1000000 in
theorem p_Of (b g off n c : Nat) (ss : Nat → Int) (w : World) (hd : Dc w b) (hg : g < w.heap.size) (hne : g ≠ b) (h1 : 1 ≤ n) (h2 : n ≤ 1000000) (hc : ∀ i, i < n → w.cell? ⟨g, off + i, none⟩ = some (.int .i64 (ss i))) :
    Calls Tryz.prog 12 #[.pointer (some ⟨b, 0, none⟩), .slice (some ⟨g, off, none⟩) n c] w (OfPost b n ss w) := by
  have HC := Lib.hid hc
  have HD := Lib.hid hd
  clear hc hd
  go_enter Tryz.func12, Tryz.ntmps12
  go_wp2_with fail
  refine (k_Next b n _ HD.out h1 (by omega)).mono ?_
  rintro e w1 ⟨r, hr, rfl, hd1, hg1⟩
  have hcell : w1.cell? ⟨g, off + r, none⟩ = some (.int .i64 (ss r)) := (World.cell?_of_block (hg1.block g hg (by intro e; injection e with e; exact hne e))).trans (HC.out r hr)
  have HD1 := Lib.hid hd1
  have HG1 := Lib.hid hg1
  have qr : (r : Int) < (n : Int) := by omega
  have q0 : (0 : Int) ≤ (r : Int) := by omega
  clear hd1 hg1
  go_wp2_with fail
  go_ret
  exact ⟨r, hr, rfl, HD1.out, HG1.out⟩
def trmZ : Array Value := #[.int .i64 0, .int .i64 0, .int .i64 0, .string ⟨#[]⟩, .string ⟨#[]⟩, .slice none 0 0]
def trmC (k n y : Int) (f x : ByteArray) : Array Value := #[.int .i64 k, .int .i64 n, .int .i64 y, .string f, .string x, .slice none 0 0]
/-- A term without arguments, as the plays make it. -/
def PlT (w : World) (db : Nat) (e : Ending) (w' : World) : Prop := ∃ k n y f x, e = .returned (.agg (trmC k n y f x)) ∧ KitT ⟨k, n, y, f, x, []⟩ ∧ Dc w' db ∧ w.grownBy w' (some db)
structure C1 (w W : World) (db bx : Nat) : Prop where
  dc : Dc W db
  res : Blk W w.heap.size 46 trmZ
  box : Blk W bx 26 #[.pointer (some ⟨db, 0, none⟩)]
  gw : w.grownBy W (some db)
  dl : db < w.heap.size
  bl : bx < w.heap.size
  ne : bx ≠ db
theorem C1.dice {w W W' : World} {db bx : Nat} (h : C1 w W db bx) (hd : Dc W' db) (hg : W.grownBy W' (some db)) : C1 w W' db bx :=
  ⟨hd, (hg.block _ h.res.lt (by intro e; injection e; have := h.dl; omega)).trans h.res, (hg.block _ h.box.lt (by intro e; injection e; exact h.ne (by omega))).trans h.box, gb_trans h.gw hg, h.dl, h.bl, h.ne⟩
theorem C1.drew {w W : World} {db bx : Nat} (h : C1 w W db bx) : C1 w W.drew db bx :=
  h.dice h.dc.drew (only_drewN (World.grownBy.refl W _) 1)
theorem C1.bc {w W : World} {db bx : Nat} (h : C1 w W db bx) : W.cell? ⟨bx, 0, none⟩ = some (.pointer (some ⟨db, 0, none⟩)) := (h.box.cell 0).trans rfl
theorem C1.rc {w W : World} {db bx : Nat} (h : C1 w W db bx) (i : Nat) : W.cell? ⟨w.heap.size, i, none⟩ = trmZ[i]? := h.res.cell i
theorem C1.rf {w W : World} {db bx : Nat} (h : C1 w W db bx) (i : Nat) : W.frozen? ⟨w.heap.size, i, none⟩ = false := h.res.frozen i
theorem C1.fin {w W : World} {db bx : Nat} (h : C1 w W db bx) (k n y : Int) (f x : ByteArray) :
    ∀ W2, W2 = (((((W.setCell ⟨w.heap.size, 0, none⟩ (.int .i64 k)).setCell ⟨w.heap.size, 1, none⟩ (.int .i64 n)).setCell ⟨w.heap.size, 2, none⟩ (.int .i64 y)).setCell ⟨w.heap.size, 3, none⟩ (.string f)).setCell ⟨w.heap.size, 4, none⟩ (.string x)).setCell ⟨w.heap.size, 5, none⟩ (.slice none 0 0) →
      (KitT ⟨k, n, y, f, x, []⟩ → PlT w db (.returned (.agg (trmC k n y f x))) W2) ∧ Blk W2 w.heap.size 46 (trmC k n y f x) := fun W2 hW2 => by
  have hc : Chg W W2 (fun q => q = w.heap.size) := by
    rw [hW2]
    exact Chg.setCell (Chg.setCell (Chg.setCell (Chg.setCell (Chg.setCell (Chg.setCell (Chg.refl W (fun q => q = w.heap.size)) ⟨w.heap.size, 0, none⟩ (fun _ => rfl) _) ⟨w.heap.size, 1, none⟩ (fun _ => rfl) _) ⟨w.heap.size, 2, none⟩ (fun _ => rfl) _) ⟨w.heap.size, 3, none⟩ (fun _ => rfl) _) ⟨w.heap.size, 4, none⟩ (fun _ => rfl) _) ⟨w.heap.size, 5, none⟩ (fun _ => rfl) _
  have hb : Blk W2 w.heap.size 46 (trmC k n y f x) := by
    rw [hW2]
    exact (((((h.res.set_ 0 _).set_ 1 _).set_ 2 _).set_ 3 _).set_ 4 _).set_ 5 _
  have hs := hc.size
  have h1 := h.dl
  refine ⟨fun hk => ⟨k, n, y, f, x, rfl, hk, h.dc.keep fun q hq => hc.block q (by have := h.dc.lt; omega) (by omega), ?_⟩, hb⟩
  exact ⟨hc.os.trans h.gw.os, hc.tape.trans h.gw.tape, hc.output.trans h.gw.output, Nat.le_trans h.gw.size hs, fun q hq hne => (hc.block q (Nat.lt_of_lt_of_le hq h.gw.size) (by omega)).trans (h.gw.block q hq hne)⟩
theorem kit_leafP (k n y : Int) : KitT ⟨k, n, y, E0, E0, []⟩ := ⟨by show (0 : Nat) ≤ 4; omega, by show (0 : Nat) ≤ 5; omega, (fun c hc => by cases hc), (fun c hc => by cases hc), by show (0 : Nat) ≤ 3; omega⟩
theorem kit_word (n : Int) : KitT ⟨7, n, 0, ⟨#[107, 105, 110, 100]⟩, ⟨#[97]⟩, []⟩ :=
  ⟨by show (4 : Nat) ≤ 4; omega, by show (1 : Nat) ≤ 5; omega, (by show ∀ c ∈ ([107, 105, 110, 100] : List UInt8), signB c = false; decide), (by show ∀ c ∈ ([97] : List UInt8), signB c = false; decide), by show (0 : Nat) ≤ 3; omega⟩
set_option maxRecDepth 100000 in
set_option maxHeartbeats 4000000 in
theorem p_Cond1 (db bx : Nat) (w : World) (hd : Dc w db) (hb : Blk w bx 26 #[.pointer (some ⟨db, 0, none⟩)]) (hne : bx ≠ db) :
    Calls Tryz.prog 36 #[.pointer (some ⟨bx, 0, none⟩)] w (PlT w db) := by
  have hlt := hd.lt
  have hbt := hb.lt
  have h1 : C1 w (w.alloc (.cells trmZ 46)) db bx := ⟨hd.alloc _, Blk.new w _ _, hb.alloc _, World.grownBy_alloc w _ (some db), hlt, hbt, hne⟩
  have H1 := Lib.hid h1
  have b1 := h1.bc
  unfold trmZ at b1
  have HN := Lib.hid (fun (n : Nat) (W : World) (h : C1 w W db bx) (q1 : 1 ≤ n) (q2 : n ≤ 1000) => (k_Next db n W h.dc q1 (by omega)).mono (R' := fun e W' => ∃ r : Nat, r < n ∧ e = .returned (.int .i64 (r : Int)) ∧ C1 w W' db bx) fun e W' hh => by
    obtain ⟨r, hr, he, hd, hg⟩ := hh
    exact ⟨r, hr, he, h.dice hd hg⟩)
  clear hd hb h1
  go_enter Tryz.func36, Tryz.ntmps36
  go_wp2_with fail
  refine (HN.out 8 _ H1.out (by omega) (by omega)).mono ?_
  rintro e w2 ⟨r, hr, rfl, h2⟩
  have H2 := Lib.hid h2
  have b2 := h2.bc
  have z0 := (h2.rc 0).trans (show _ = some (Value.int .i64 0) from rfl)
  have f0 := h2.rf 0
  have z1 := (h2.rc 1).trans (show _ = some (Value.int .i64 0) from rfl)
  have f1 := h2.rf 1
  have z2 := (h2.rc 2).trans (show _ = some (Value.int .i64 0) from rfl)
  have f2 := h2.rf 2
  have z3 := (h2.rc 3).trans (show _ = some (Value.string ⟨#[]⟩) from rfl)
  have f3 := h2.rf 3
  have z4 := (h2.rc 4).trans (show _ = some (Value.string ⟨#[]⟩) from rfl)
  have f4 := h2.rf 4
  have z5 := (h2.rc 5).trans (show _ = some (Value.slice none 0 0) from rfl)
  have f5 := h2.rf 5
  clear h2 H1 b1
  have hr8 : r = 0 ∨ r = 1 ∨ r = 2 ∨ r = 3 ∨ r = 4 ∨ r = 5 ∨ r = 6 ∨ r = 7 := by omega
  rcases hr8 with rfl | rfl | rfl | rfl | rfl | rfl | rfl | rfl
  all_goals clear hr
  · clear z0 z1 z2 z3 z4 z5 f0 f1 f2 f3 f4 f5
    go_wp2_with fail
    refine (HN.out 4 _ H2.out (by omega) (by omega)).mono ?_
    rintro e w3 ⟨r, hr, rfl, h3⟩
    have H3 := Lib.hid h3
    have z0 := (h3.rc 0).trans (show _ = some (Value.int .i64 0) from rfl)
    have f0 := h3.rf 0
    have z1 := (h3.rc 1).trans (show _ = some (Value.int .i64 0) from rfl)
    have f1 := h3.rf 1
    have z2 := (h3.rc 2).trans (show _ = some (Value.int .i64 0) from rfl)
    have f2 := h3.rf 2
    have z3 := (h3.rc 3).trans (show _ = some (Value.string ⟨#[]⟩) from rfl)
    have f3 := h3.rf 3
    have z4 := (h3.rc 4).trans (show _ = some (Value.string ⟨#[]⟩) from rfl)
    have f4 := h3.rf 4
    have z5 := (h3.rc 5).trans (show _ = some (Value.slice none 0 0) from rfl)
    have f5 := h3.rf 5
    clear h3 H2 b2
    go_wp2_with fail
    obtain ⟨fin, hb⟩ := H3.out.fin (3) (1 + (r : Int)) (0) ⟨#[]⟩ ⟨#[]⟩ _ rfl
    refine bodyPost_ret (v := .agg (trmC (3) (1 + (r : Int)) (0) ⟨#[]⟩ ⟨#[]⟩)) ?_ rfl (fin (kit_leafP _ _ _))
    simp [results, Tryz.results36, go_sem, (hb.cell 0).trans (show _ = some (Value.int .i64 (3)) from rfl), (hb.cell 1).trans (show _ = some (Value.int .i64 (1 + (r : Int))) from rfl), (hb.cell 2).trans (show _ = some (Value.int .i64 (0)) from rfl), (hb.cell 3).trans (show _ = some (Value.string ⟨#[]⟩) from rfl), (hb.cell 4).trans (show _ = some (Value.string ⟨#[]⟩) from rfl), (hb.cell 5).trans (show _ = some (Value.slice none 0 0) from rfl), trmC]
  · clear z0 z1 z2 z3 z4 z5 f0 f1 f2 f3 f4 f5
    go_wp2_with fail
    refine (HN.out 4 _ H2.out (by omega) (by omega)).mono ?_
    rintro e w3 ⟨r, hr, rfl, h3⟩
    have H3 := Lib.hid h3
    have z0 := (h3.rc 0).trans (show _ = some (Value.int .i64 0) from rfl)
    have f0 := h3.rf 0
    have z1 := (h3.rc 1).trans (show _ = some (Value.int .i64 0) from rfl)
    have f1 := h3.rf 1
    have z2 := (h3.rc 2).trans (show _ = some (Value.int .i64 0) from rfl)
    have f2 := h3.rf 2
    have z3 := (h3.rc 3).trans (show _ = some (Value.string ⟨#[]⟩) from rfl)
    have f3 := h3.rf 3
    have z4 := (h3.rc 4).trans (show _ = some (Value.string ⟨#[]⟩) from rfl)
    have f4 := h3.rf 4
    have z5 := (h3.rc 5).trans (show _ = some (Value.slice none 0 0) from rfl)
    have f5 := h3.rf 5
    clear h3 H2 b2
    go_wp2_with fail
    obtain ⟨fin, hb⟩ := H3.out.fin (3) (1 + (r : Int)) (0) ⟨#[]⟩ ⟨#[]⟩ _ rfl
    refine bodyPost_ret (v := .agg (trmC (3) (1 + (r : Int)) (0) ⟨#[]⟩ ⟨#[]⟩)) ?_ rfl (fin (kit_leafP _ _ _))
    simp [results, Tryz.results36, go_sem, (hb.cell 0).trans (show _ = some (Value.int .i64 (3)) from rfl), (hb.cell 1).trans (show _ = some (Value.int .i64 (1 + (r : Int))) from rfl), (hb.cell 2).trans (show _ = some (Value.int .i64 (0)) from rfl), (hb.cell 3).trans (show _ = some (Value.string ⟨#[]⟩) from rfl), (hb.cell 4).trans (show _ = some (Value.string ⟨#[]⟩) from rfl), (hb.cell 5).trans (show _ = some (Value.slice none 0 0) from rfl), trmC]
  · clear z0 z1 z2 z3 z4 z5 f0 f1 f2 f3 f4 f5
    go_wp2_with fail
    refine (HN.out 4 _ H2.out (by omega) (by omega)).mono ?_
    rintro e w3 ⟨r, hr, rfl, h3⟩
    have H3 := Lib.hid h3
    have z0 := (h3.rc 0).trans (show _ = some (Value.int .i64 0) from rfl)
    have f0 := h3.rf 0
    have z1 := (h3.rc 1).trans (show _ = some (Value.int .i64 0) from rfl)
    have f1 := h3.rf 1
    have z2 := (h3.rc 2).trans (show _ = some (Value.int .i64 0) from rfl)
    have f2 := h3.rf 2
    have z3 := (h3.rc 3).trans (show _ = some (Value.string ⟨#[]⟩) from rfl)
    have f3 := h3.rf 3
    have z4 := (h3.rc 4).trans (show _ = some (Value.string ⟨#[]⟩) from rfl)
    have f4 := h3.rf 4
    have z5 := (h3.rc 5).trans (show _ = some (Value.slice none 0 0) from rfl)
    have f5 := h3.rf 5
    clear h3 H2 b2
    go_wp2_with fail
    obtain ⟨fin, hb⟩ := H3.out.fin (3) (1 + (r : Int)) (0) ⟨#[]⟩ ⟨#[]⟩ _ rfl
    refine bodyPost_ret (v := .agg (trmC (3) (1 + (r : Int)) (0) ⟨#[]⟩ ⟨#[]⟩)) ?_ rfl (fin (kit_leafP _ _ _))
    simp [results, Tryz.results36, go_sem, (hb.cell 0).trans (show _ = some (Value.int .i64 (3)) from rfl), (hb.cell 1).trans (show _ = some (Value.int .i64 (1 + (r : Int))) from rfl), (hb.cell 2).trans (show _ = some (Value.int .i64 (0)) from rfl), (hb.cell 3).trans (show _ = some (Value.string ⟨#[]⟩) from rfl), (hb.cell 4).trans (show _ = some (Value.string ⟨#[]⟩) from rfl), (hb.cell 5).trans (show _ = some (Value.slice none 0 0) from rfl), trmC]
  · clear z0 z1 z2 z3 z4 z5 f0 f1 f2 f3 f4 f5
    go_wp2_with fail
    refine (HN.out 3 _ H2.out (by omega) (by omega)).mono ?_
    rintro e w3 ⟨r, hr, rfl, h3⟩
    have H3 := Lib.hid h3
    have z0 := (h3.rc 0).trans (show _ = some (Value.int .i64 0) from rfl)
    have f0 := h3.rf 0
    have z1 := (h3.rc 1).trans (show _ = some (Value.int .i64 0) from rfl)
    have f1 := h3.rf 1
    have z2 := (h3.rc 2).trans (show _ = some (Value.int .i64 0) from rfl)
    have f2 := h3.rf 2
    have z3 := (h3.rc 3).trans (show _ = some (Value.string ⟨#[]⟩) from rfl)
    have f3 := h3.rf 3
    have z4 := (h3.rc 4).trans (show _ = some (Value.string ⟨#[]⟩) from rfl)
    have f4 := h3.rf 4
    have z5 := (h3.rc 5).trans (show _ = some (Value.slice none 0 0) from rfl)
    have f5 := h3.rf 5
    clear h3 H2 b2
    go_wp2_with fail
    obtain ⟨fin, hb⟩ := H3.out.fin (4) (1 + (r : Int)) (0) ⟨#[]⟩ ⟨#[]⟩ _ rfl
    refine bodyPost_ret (v := .agg (trmC (4) (1 + (r : Int)) (0) ⟨#[]⟩ ⟨#[]⟩)) ?_ rfl (fin (kit_leafP _ _ _))
    simp [results, Tryz.results36, go_sem, (hb.cell 0).trans (show _ = some (Value.int .i64 (4)) from rfl), (hb.cell 1).trans (show _ = some (Value.int .i64 (1 + (r : Int))) from rfl), (hb.cell 2).trans (show _ = some (Value.int .i64 (0)) from rfl), (hb.cell 3).trans (show _ = some (Value.string ⟨#[]⟩) from rfl), (hb.cell 4).trans (show _ = some (Value.string ⟨#[]⟩) from rfl), (hb.cell 5).trans (show _ = some (Value.slice none 0 0) from rfl), trmC]
  · clear z0 z1 z2 z3 z4 z5 f0 f1 f2 f3 f4 f5
    have H2d := Lib.hid H2.out.drew
    have b2d := H2d.out.bc
    have HN3 : Hid (∀ W : World, C1 w W db bx → Calls Tryz.prog 7 #[.pointer (some ⟨db, 0, none⟩), .int .i64 3] W fun e W' => ∃ r : Nat, r < 3 ∧ e = .returned (.int .i64 (r : Int)) ∧ C1 w W' db bx) := Lib.hid fun W h => HN.out 3 W h (by omega) (by omega)
    go_upto_region 9 with fail
    go_region_law (first
      | ((try go_simp); go_at_call 7; first
        | ((with_reducible refine (HN3.out _ H2d.out).mono ?_); rintro e w3 ⟨r3, hr3, rfl, h3⟩; have H3 := Lib.hid h3; have b3 := h3.bc; clear h3)
        | ((with_reducible refine (HN3.out _ H3.out).mono ?_); rintro e w4 ⟨r4, hr4, rfl, h4⟩; have H4 := Lib.hid h4; have b4 := h4.bc; have z0 := (h4.rc 0).trans (show _ = some (Value.int .i64 0) from rfl); have f0 := h4.rf 0; have z1 := (h4.rc 1).trans (show _ = some (Value.int .i64 0) from rfl); have f1 := h4.rf 1; have z2 := (h4.rc 2).trans (show _ = some (Value.int .i64 0) from rfl); have f2 := h4.rf 2; have z3 := (h4.rc 3).trans (show _ = some (Value.string ⟨#[]⟩) from rfl); have f3 := h4.rf 3; have z4 := (h4.rc 4).trans (show _ = some (Value.string ⟨#[]⟩) from rfl); have f4 := h4.rf 4; have z5 := (h4.rc 5).trans (show _ = some (Value.slice none 0 0) from rfl); have f5 := h4.rf 5; clear h4)))
    all_goals
      clear H2 H2d b2 b2d H3 b3 b4 HN HN3
      go_wp2_with fail
      obtain ⟨fin, hb⟩ := H4.out.fin 5 (IntKind.i64.wrap (1 + (r3 : Int))) (r4) ⟨#[]⟩ ⟨#[]⟩ _ rfl
      refine bodyPost_ret (v := .agg (trmC 5 (IntKind.i64.wrap (1 + (r3 : Int))) (r4) ⟨#[]⟩ ⟨#[]⟩)) ?_ rfl (fin (kit_leafP _ _ _))
      simp [results, Tryz.results36, go_sem, (hb.cell 0).trans (show _ = some (Value.int .i64 5) from rfl), (hb.cell 1).trans (show _ = some (Value.int .i64 (IntKind.i64.wrap (1 + (r3 : Int)))) from rfl), (hb.cell 2).trans (show _ = some (Value.int .i64 (r4)) from rfl), (hb.cell 3).trans (show _ = some (Value.string ⟨#[]⟩) from rfl), (hb.cell 4).trans (show _ = some (Value.string ⟨#[]⟩) from rfl), (hb.cell 5).trans (show _ = some (Value.slice none 0 0) from rfl), trmC]
  · go_wp2_with fail
    obtain ⟨fin, hb⟩ := H2.out.fin (6) (0) (0) ⟨#[]⟩ ⟨#[]⟩ _ rfl
    refine bodyPost_ret (v := .agg (trmC (6) (0) (0) ⟨#[]⟩ ⟨#[]⟩)) ?_ rfl (fin (kit_leafP _ _ _))
    simp [results, Tryz.results36, go_sem, (hb.cell 0).trans (show _ = some (Value.int .i64 (6)) from rfl), (hb.cell 1).trans (show _ = some (Value.int .i64 (0)) from rfl), (hb.cell 2).trans (show _ = some (Value.int .i64 (0)) from rfl), (hb.cell 3).trans (show _ = some (Value.string ⟨#[]⟩) from rfl), (hb.cell 4).trans (show _ = some (Value.string ⟨#[]⟩) from rfl), (hb.cell 5).trans (show _ = some (Value.slice none 0 0) from rfl), trmC]
  · clear z0 z1 z2 z3 z4 z5 f0 f1 f2 f3 f4 f5
    go_wp2_with fail
    refine (HN.out 2 _ H2.out (by omega) (by omega)).mono ?_
    rintro e w3 ⟨r, hr, rfl, h3⟩
    have H3 := Lib.hid h3
    have z0 := (h3.rc 0).trans (show _ = some (Value.int .i64 0) from rfl)
    have f0 := h3.rf 0
    have z1 := (h3.rc 1).trans (show _ = some (Value.int .i64 0) from rfl)
    have f1 := h3.rf 1
    have z2 := (h3.rc 2).trans (show _ = some (Value.int .i64 0) from rfl)
    have f2 := h3.rf 2
    have z3 := (h3.rc 3).trans (show _ = some (Value.string ⟨#[]⟩) from rfl)
    have f3 := h3.rf 3
    have z4 := (h3.rc 4).trans (show _ = some (Value.string ⟨#[]⟩) from rfl)
    have f4 := h3.rf 4
    have z5 := (h3.rc 5).trans (show _ = some (Value.slice none 0 0) from rfl)
    have f5 := h3.rf 5
    clear h3 H2 b2
    go_wp2_with fail
    obtain ⟨fin, hb⟩ := H3.out.fin (7) (1 + (r : Int)) (0) ⟨#[107, 105, 110, 100]⟩ ⟨#[97]⟩ _ rfl
    refine bodyPost_ret (v := .agg (trmC (7) (1 + (r : Int)) (0) ⟨#[107, 105, 110, 100]⟩ ⟨#[97]⟩)) ?_ rfl (fin (kit_word _))
    simp [results, Tryz.results36, go_sem, (hb.cell 0).trans (show _ = some (Value.int .i64 (7)) from rfl), (hb.cell 1).trans (show _ = some (Value.int .i64 (1 + (r : Int))) from rfl), (hb.cell 2).trans (show _ = some (Value.int .i64 (0)) from rfl), (hb.cell 3).trans (show _ = some (Value.string ⟨#[107, 105, 110, 100]⟩) from rfl), (hb.cell 4).trans (show _ = some (Value.string ⟨#[97]⟩) from rfl), (hb.cell 5).trans (show _ = some (Value.slice none 0 0) from rfl), trmC]
  · go_wp2_with fail
    obtain ⟨fin, hb⟩ := H2.out.fin (8) (0) (0) ⟨#[]⟩ ⟨#[]⟩ _ rfl
    refine bodyPost_ret (v := .agg (trmC (8) (0) (0) ⟨#[]⟩ ⟨#[]⟩)) ?_ rfl (fin (kit_leafP _ _ _))
    simp [results, Tryz.results36, go_sem, (hb.cell 0).trans (show _ = some (Value.int .i64 (8)) from rfl), (hb.cell 1).trans (show _ = some (Value.int .i64 (0)) from rfl), (hb.cell 2).trans (show _ = some (Value.int .i64 (0)) from rfl), (hb.cell 3).trans (show _ = some (Value.string ⟨#[]⟩) from rfl), (hb.cell 4).trans (show _ = some (Value.string ⟨#[]⟩) from rfl), (hb.cell 5).trans (show _ = some (Value.slice none 0 0) from rfl), trmC]
end Go.Proofs.YtgbhaaongmlpkaaGreatDoor
namespace Go.Proofs.YtgbhaaongmlpkaaGreatDoor
open Go.RowKit Num

/-- A condition of the plays: one term, or three. -/
theorem kit_argsP (k : Int) (ar : List Int) (h : ar.length ≤ 3) : KitT ⟨k, 0, 0, E0, E0, ar⟩ := ⟨by show (0 : Nat) ≤ 4; omega, by show (0 : Nat) ≤ 5; omega, (fun c hc => by cases hc), (fun c hc => by cases hc), h⟩
def PlC (w : World) (db : Nat) (e : Ending) (w' : World) : Prop := ∃ A n c L, e = .returned (.agg #[.slice A n c]) ∧ TermsAt w' (fun b => w.heap.size ≤ b ∧ b < w'.heap.size) (.slice A n c) L ∧ L.length ≤ 3 ∧ (∀ t ∈ L, KitT t) ∧ Dc w' db ∧ w.grownBy w' (some db)
structure C2 (w W : World) (db : Nat) : Prop where
  dc : Dc W db
  box : Blk W w.heap.size 26 #[.pointer (some ⟨db, 0, none⟩)]
  res : Blk W (w.heap.size + 1) 33 #[.slice none 0 0]
  gw : w.grownBy W (some db)
  dl : db < w.heap.size
section
variable {w W W' : World} {db : Nat}
theorem C2.dice (h : C2 w W db) (hd : Dc W' db) (hg : W.grownBy W' (some db)) : C2 w W' db :=
  ⟨hd, (hg.block _ h.box.lt (by intro e; injection e; have := h.dl; omega)).trans h.box, (hg.block _ h.res.lt (by intro e; injection e; have := h.dl; omega)).trans h.res, gb_trans h.gw hg, h.dl⟩
theorem C2.alloc (h : C2 w W db) (o : Obj) : C2 w (W.alloc o) db := h.dice (h.dc.alloc o) (World.grownBy_alloc W o _)
theorem C2.bc (h : C2 w W db) : W.cell? ⟨w.heap.size, 0, none⟩ = some (.pointer (some ⟨db, 0, none⟩)) := (h.box.cell 0).trans rfl
theorem C2.rc (h : C2 w W db) : W.cell? ⟨w.heap.size + 1, 0, none⟩ = some (.slice none 0 0) := (h.res.cell 0).trans rfl
theorem C2.rf (h : C2 w W db) : W.frozen? ⟨w.heap.size + 1, 0, none⟩ = false := h.res.frozen 0
/-- The terms are stored as the result. -/
theorem C2.fin (h : C2 w W db) {A : Option Addr} {n c : Nat} {L : List Trm} (hT : TermsAt W (fun b => w.heap.size + 1 < b ∧ b < W.heap.size) (.slice A n c) L) (hl : L.length ≤ 3) (hk : ∀ t ∈ L, KitT t) :
    PlC w db (.returned (.agg #[.slice A n c])) (W.setCell ⟨w.heap.size + 1, 0, none⟩ (.slice A n c)) ∧ (W.setCell ⟨w.heap.size + 1, 0, none⟩ (.slice A n c)).cell? ⟨w.heap.size + 1, 0, none⟩ = some (.slice A n c) := by
  have hg : W.grownBy (W.setCell ⟨w.heap.size + 1, 0, none⟩ (.slice A n c)) (some (w.heap.size + 1)) := grown_setCell W ⟨w.heap.size + 1, 0, none⟩ _
  have h1 := h.dl
  refine ⟨⟨A, n, c, L, rfl, (hT.keep fun b hb => hg.block b hb.2 (by intro e; injection e; omega)).mono fun b hb => ⟨by omega, by have := hg.size; omega⟩, hl, hk, h.dc.keep fun q hq => hg.block q (by have := h.dc.lt; omega) (by intro e; injection e; omega), ?_⟩, World.cell?_setCell_same W ⟨w.heap.size + 1, 0, none⟩ _ h.rc⟩
  exact ⟨hg.os.trans h.gw.os, hg.tape.trans h.gw.tape, hg.output.trans h.gw.output, Nat.le_trans h.gw.size hg.size, fun q hq hne => (hg.block q (Nat.lt_of_lt_of_le hq h.gw.size) (by intro e; injection e; omega)).trans (h.gw.block q hq hne)⟩
end
theorem term_none {W : World} {S : Nat → Prop} {g off : Nat} {k n y : Int} {f x : ByteArray} (c0 : W.cell? ⟨g, off, none⟩ = some (.int .i64 k)) (c1 : W.cell? ⟨g, off + 1, none⟩ = some (.int .i64 n)) (c2 : W.cell? ⟨g, off + 2, none⟩ = some (.int .i64 y)) (c3 : W.cell? ⟨g, off + 3, none⟩ = some (.string f)) (c4 : W.cell? ⟨g, off + 4, none⟩ = some (.string x)) (c5 : W.cell? ⟨g, off + 5, none⟩ = some (.slice none 0 0)) :
    TermAt W S g off ⟨k, n, y, f, x, []⟩ := ⟨c0, c1, c2, c3, c4, _, c5, none, 0, 0, rfl, rfl, Nat.le_refl _, fun h => absurd h (Nat.lt_irrefl 0)⟩
theorem terms_one {W : World} {S : Nat → Prop} {g : Nat} {k n y : Int} {f x : ByteArray} (h : Blk W g 46 (trmC k n y f x)) (hS : S g) : TermsAt W S (.slice (some ⟨g, 0, none⟩) 1 1) [⟨k, n, y, f, x, []⟩] := by
  refine ⟨_, 1, 1, rfl, rfl, Nat.le_refl _, fun _ => ⟨g, 0, rfl, hS, fun q hq => ?_⟩⟩
  obtain rfl : q = 0 := by omega
  exact term_none (h.cell 0) (h.cell 1) (h.cell 2) (h.cell 3) (h.cell 4) (h.cell 5)
theorem terms_three {W : World} {S : Nat → Prop} {g a : Nat} {k0 k n y k' n' y' : Int} {f x f' x' : ByteArray}
    (h : Blk W g 46 #[.int .i64 k0, .int .i64 0, .int .i64 0, .string ⟨#[]⟩, .string ⟨#[]⟩, .slice (some ⟨a, 0, none⟩) 2 2, .int .i64 k, .int .i64 n, .int .i64 y, .string f, .string x, .slice none 0 0, .int .i64 k', .int .i64 n', .int .i64 y', .string f', .string x', .slice none 0 0])
    (ha : Blk W a 3 #[.int .i64 1, .int .i64 2]) (hS : S g) (hSa : S a) : TermsAt W S (.slice (some ⟨g, 0, none⟩) 3 3) [⟨k0, 0, 0, E0, E0, [1, 2]⟩, ⟨k, n, y, f, x, []⟩, ⟨k', n', y', f', x', []⟩] := by
  refine ⟨_, 3, 3, rfl, rfl, Nat.le_refl _, fun _ => ⟨g, 0, rfl, hS, fun q hq => ?_⟩⟩
  have hq3 : q = 0 ∨ q = 1 ∨ q = 2 := by omega
  rcases hq3 with rfl | rfl | rfl
  · refine ⟨h.cell 0, h.cell 1, h.cell 2, h.cell 3, h.cell 4, _, h.cell 5, _, 2, 2, rfl, rfl, Nat.le_refl _, fun _ => ⟨a, 0, rfl, hSa, fun j hj => ?_⟩⟩
    have hj2 : j = 0 ∨ j = 1 := by omega
    rcases hj2 with rfl | rfl
    · exact ha.cell 0
    · exact ha.cell 1
  · exact term_none (h.cell 6) (h.cell 7) (h.cell 8) (h.cell 9) (h.cell 10) (h.cell 11)
  · exact term_none (h.cell 12) (h.cell 13) (h.cell 14) (h.cell 15) (h.cell 16) (h.cell 17)
def of12 : Nat → Int := fun i => if i = 0 then 1 else 2
set_option maxRecDepth 100000 in
set_option maxHeartbeats 4000000 in
theorem p_Condition (db : Nat) (w : World) (hd : Dc w db) :
    Calls Tryz.prog 19 #[.pointer (some ⟨db, 0, none⟩)] w (PlC w db) := by
  have hmf : ∀ (fn : Fn) (first cap : Array Value) (w : World), (Instr.makeFunc fn first cap).run Tryz.prog w = .ok (.func fn first cap) w := fun _ _ _ _ => rfl
  have hlt := hd.lt
  have h1 : C2 w ((w.alloc (.cells #[.pointer (some ⟨db, 0, none⟩)] 26)).alloc (.cells #[.slice none 0 0] 33)) db := by
    refine ⟨(hd.alloc _).alloc _, (Blk.new w _ _).alloc _, ?_, gb_trans (World.grownBy_alloc w _ (some db)) (World.grownBy_alloc _ _ (some db)), hlt⟩
    have := Blk.new (w.alloc (.cells #[.pointer (some ⟨db, 0, none⟩)] 26)) 33 #[.slice none 0 0]
    rwa [World.size_alloc] at this
  have H1 := Lib.hid h1
  have b1 := h1.bc
  have HC := Lib.hid (fun (W : World) (h : C2 w W db) => p_Cond1 db w.heap.size W h.dc h.box (by omega))
  clear hd h1
  go_enter Tryz.func19, Tryz.ntmps19
  go_wp2_with fail
  refine (p_One db 4 _ H1.out.dc (by omega) (by omega)).mono ?_
  rintro e w2 ⟨x, rfl, hd2, hg2⟩
  have H2 := Lib.hid (H1.out.dice hd2 hg2)
  have b2 := H2.out.bc
  clear H1 b1 hd2 hg2
  cases x
  · go_wp2_with fail
    refine (HC.out _ H2.out).mono ?_
    rintro e w3 ⟨k, n, y, f, x, rfl, hk, hd3, hg3⟩
    have H3 := Lib.hid (H2.out.dice hd3 hg3)
    have HK := Lib.hid hk
    have r3 := H3.out.rc
    have f3 := H3.out.rf
    have l3 := H3.out.res.lt
    clear hd3 hg3 hk H2 b2
    unfold trmC
    go_wp2_with fail
    obtain ⟨fin, x0⟩ := (H3.out.alloc (.cells (trmC k n y f x) 46)).fin (terms_one (S := fun b => w.heap.size + 1 < b ∧ b < (w3.alloc (.cells (trmC k n y f x) 46)).heap.size) (Blk.new w3 _ _) ⟨l3, by simp⟩) (by show 1 ≤ 3; omega) (fun t ht => by rw [List.mem_singleton.1 ht]; exact HK.out)
    rw [World.setCell_alloc_past _ _ _ _ l3] at fin x0
    unfold trmC at fin x0
    refine bodyPost_ret (v := .agg #[.slice (some ⟨w3.heap.size, 0, none⟩) 1 1]) ?_ rfl fin
    simp [results, Tryz.results19, go_sem, x0]
  · go_wp2_with fail
    have l2 := H2.out.dc.lt
    have l2r := H2.out.res.lt
    have hb2 := Blk.new w2 3 #[.int .i64 1, .int .i64 2]
    refine (p_Of db w2.heap.size 0 2 2 of12 _ (H2.out.dc.alloc _) (by simp) (by omega) (by omega) (by omega) (fun i hi => ?_)).mono ?_
    · have h2 : i = 0 ∨ i = 1 := by omega
      rcases h2 with rfl | rfl
      · exact hb2.cell 0
      · exact hb2.cell 1
    rintro e w3 ⟨r, hr, rfl, hd3, hg3⟩
    generalize of12 r = k0
    have H3 := Lib.hid ((H2.out.alloc _).dice hd3 hg3)
    have s3 := hg3.size
    simp only [World.size_alloc] at s3
    have b3 := (H3.out.alloc (.cells #[.int .i64 1, .int .i64 2] 3)).bc
    clear H2 b2 hb2 hd3 hg3
    go_wp2_with fail
    refine (HC.out _ (H3.out.alloc _)).mono ?_
    rintro e w4 ⟨k, n, y, f, x, rfl, hk, hd4, hg4⟩
    have s4 := hg4.size
    simp only [World.size_alloc] at s4
    have hi4 : Blk w4 w3.heap.size 3 #[.int .i64 1, .int .i64 2] := (hg4.block w3.heap.size (by simp) (by intro e; injection e; omega)).trans (Blk.new w3 _ _)
    have H4 := Lib.hid ((H3.out.alloc _).dice hd4 hg4)
    have HK := Lib.hid hk
    have HI4 := Lib.hid hi4
    have b4 := H4.out.bc
    clear hd4 hg4 hk hi4 H3 b3
    unfold trmC
    go_wp2_with fail
    refine (HC.out _ H4.out).mono ?_
    rintro e w5 ⟨k', n', y', f', x', rfl, hk', hd5, hg5⟩
    have s5 := hg5.size
    have hi5 : Blk w5 w3.heap.size 3 #[.int .i64 1, .int .i64 2] := (hg5.block w3.heap.size (by omega) (by intro e; injection e; omega)).trans HI4.out
    have H5 := Lib.hid (H4.out.dice hd5 hg5)
    have HK' := Lib.hid hk'
    have HI5 := Lib.hid hi5
    have r5 := H5.out.rc
    have f5 := H5.out.rf
    have l5 := H5.out.res.lt
    clear hd5 hg5 hk' hi5 H4 b4 HI4
    unfold trmC
    go_wp2_with fail
    obtain ⟨fin, x0⟩ := (H5.out.alloc (.cells #[.int .i64 k0, .int .i64 0, .int .i64 0, .string ⟨#[]⟩, .string ⟨#[]⟩, .slice (some ⟨w3.heap.size, 0, none⟩) 2 2, .int .i64 k, .int .i64 n, .int .i64 y, .string f, .string x, .slice none 0 0, .int .i64 k', .int .i64 n', .int .i64 y', .string f', .string x', .slice none 0 0] 46)).fin (terms_three (S := fun b => w.heap.size + 1 < b ∧ b < (w5.alloc (.cells #[.int .i64 k0, .int .i64 0, .int .i64 0, .string ⟨#[]⟩, .string ⟨#[]⟩, .slice (some ⟨w3.heap.size, 0, none⟩) 2 2, .int .i64 k, .int .i64 n, .int .i64 y, .string f, .string x, .slice none 0 0, .int .i64 k', .int .i64 n', .int .i64 y', .string f', .string x', .slice none 0 0] 46)).heap.size) (Blk.new w5 _ _) (HI5.out.alloc _) ⟨l5, by simp⟩ ⟨by omega, by simp; omega⟩) (by show 3 ≤ 3; omega) (fun t ht => by
      simp only [List.mem_cons, List.not_mem_nil, or_false] at ht
      rcases ht with rfl | rfl | rfl
      · exact kit_argsP _ _ (by show 2 ≤ 3; omega)
      · exact HK.out
      · exact HK'.out)
    rw [World.setCell_alloc_past _ _ _ _ l5] at fin x0
    refine bodyPost_ret (v := .agg #[.slice (some ⟨w5.heap.size, 0, none⟩) 3 3]) ?_ rfl fin
    simp [results, Tryz.results19, go_sem, x0]
end Go.Proofs.YtgbhaaongmlpkaaGreatDoor
namespace Go.Proofs.YtgbhaaongmlpkaaGreatDoor
open Go.RowKit Num
/-- The head of a slice of a slice. -/
def subA (A : Option Addr) (cap k size : Nat) : Option Addr := if cap = k then A else A.map (·.add (k * size))
section
variable {P : Program} (w : World) (t e : TypeId) (i : TypeInfo) (size : Nat)
theorem run_slice_lohi (ht : P.underlying t = some (.slice e)) (hi : P.info? e = some i) (hz : i.size = size) (A : Option Addr) (n c lo hg : Nat) (h1 : lo ≤ hg) (h2 : hg ≤ c) (x y : Int) (hx : x = (lo : Int)) (hy : y = (hg : Int)) :
    (Instr.slice t (.slice A n c) (some (.int .i64 x)) (some (.int .i64 y)) none).run P w = .ok (.slice (subA A c lo size) (hg - lo) (c - lo)) w := by
  subst hx hy hz
  have e1 : (0 : Int) ≤ (hg : Int) ∧ (hg : Int) ≤ (c : Int) := by omega
  have e2 : (0 : Int) ≤ (lo : Int) ∧ (lo : Int) ≤ (hg : Int) := by omega
  simp [Instr.slice, run_underlying ht, Instr.sliceBounds, Instr.sliceBound, asIntOf, sizeOf, typeInfo, hi, subA, go_sem, h1, h2]
theorem run_slice_hi (ht : P.underlying t = some (.slice e)) (hi : P.info? e = some i) (A : Option Addr) (n c hg : Nat) (h2 : hg ≤ c) (y : Int) (hy : y = (hg : Int)) :
    (Instr.slice t (.slice A n c) none (some (.int .i64 y)) none).run P w = .ok (.slice A hg c) w := by
  subst hy
  have e1 : (0 : Int) ≤ (hg : Int) ∧ (hg : Int) ≤ (c : Int) := by omega
  simp [Instr.slice, run_underlying ht, Instr.sliceBounds, Instr.sliceBound, asIntOf, sizeOf, typeInfo, hi, go_sem, h2]
theorem run_slice_lo (ht : P.underlying t = some (.slice e)) (hi : P.info? e = some i) (hz : i.size = size) (A : Option Addr) (n c lo : Nat) (h1 : lo ≤ n) (h2 : n ≤ c) (x : Int) (hx : x = (lo : Int)) :
    (Instr.slice t (.slice A n c) (some (.int .i64 x)) none none).run P w = .ok (.slice (subA A c lo size) (n - lo) (c - lo)) w := by
  subst hx hz
  have e2 : (0 : Int) ≤ (lo : Int) ∧ (lo : Int) ≤ (n : Int) := by omega
  simp [Instr.slice, run_underlying ht, Instr.sliceBounds, Instr.sliceBound, asIntOf, sizeOf, typeInfo, hi, subA, go_sem, h1]
end
theorem Reads.sub {w : World} {B size n : Nat} {A : Option Addr} {xs : List Value} (h : Reads w B size A n xs) {lo hg cap : Nat} (h1 : lo ≤ hg) (h2 : hg ≤ n) (hc : n ≤ cap) :
    Reads w B size (subA A cap lo size) (hg - lo) ((xs.drop (lo * size)).take ((hg - lo) * size)) := by
  refine ⟨?_, fun hn => ?_⟩
  · rw [List.length_take, List.length_drop, h.1, ← Nat.sub_mul]
    exact Nat.min_eq_left (Nat.mul_le_mul_right size (by omega))
  obtain ⟨ad, rfl, hb, hcell⟩ := h.2 (by omega)
  unfold subA
  rw [if_neg (by omega)]
  refine ⟨ad.add (lo * size), rfl, by rw [block_of_add]; exact hb, fun j u hu => ?_⟩
  rw [add_of_add]
  rw [List.getElem?_take] at hu
  split at hu
  · exact hcell _ u (by rw [← hu, List.getElem?_drop])
  · cases hu
end Go.Proofs.YtgbhaaongmlpkaaGreatDoor
