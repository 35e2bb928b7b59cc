/- Contracts: the plays' One, Of and a term of their Condition. -/
import Derived.Test.YtgeahbmaeaoeeaaGreatDoorQ24
import Derived.Test.YtgeahbmaeaoeeaaGreatDoorQ22
set_option linter.unusedVariables false
set_option linter.unusedSimpArgs false
namespace Go.Proofs.YtgeahbmaeaoeeaaGreatDoor.Pa
open Go.RowKit Num

def OnePost (b : Nat) (w : World) (e : Ending) (w' : World) : Prop := ∃ x : Bool, e = .returned (.bool x) ∧ Dc w' b ∧ w.grownBy w' (some b)
theorem p_One (b n : Nat) (w : World) (hd : Dc w b) (h1 : 1 ≤ n) (h2 : n ≤ 1000000) :
    Calls Tryz.prog 32 #[.pointer (some ⟨b, 0, none⟩), .int .i64 (n : Int)] w (OnePost b w) := by
  have HD := Lib.hid hd
  clear hd
  go_enter Tryz.func32, Tryz.ntmps32
  go_wp2_with fail
  refine (k_Next b n _ HD.out h1 (by omega)).mono ?_
  rintro e w1 ⟨r, hr, rfl, hd1, hg1⟩
  have HD1 := Lib.hid hd1
  have HG1 := Lib.hid hg1
  clear hd1 hg1
  go_wp2_with fail
  go_ret
  exact ⟨_, rfl, HD1.out, HG1.out⟩
def OfPost (b n : Nat) (ss : Nat → Int) (w : World) (e : Ending) (w' : World) : Prop := ∃ r : Nat, r < n ∧ e = .returned (.int .i64 (ss r)) ∧ Dc w' b ∧ w.grownBy w' (some b)
set_option maxHeartbeats 1000000 in
theorem p_Of (b g off n c : Nat) (ss : Nat → Int) (w : World) (hd : Dc w b) (hg : g < w.heap.size) (hne : g ≠ b) (h1 : 1 ≤ n) (h2 : n ≤ 1000000) (hc : ∀ i, i < n → w.cell? ⟨g, off + i, none⟩ = some (.int .i64 (ss i))) :
    Calls Tryz.prog 79 #[.pointer (some ⟨b, 0, none⟩), .slice (some ⟨g, off, none⟩) n c] w (OfPost b n ss w) := by
  have HC := Lib.hid hc
  have HD := Lib.hid hd
  clear hc hd
  go_enter Tryz.func79, Tryz.ntmps79
  go_wp2_with fail
  refine (k_Next b n _ HD.out h1 (by omega)).mono ?_
  rintro e w1 ⟨r, hr, rfl, hd1, hg1⟩
  have hcell : w1.cell? ⟨g, off + r, none⟩ = some (.int .i64 (ss r)) := (World.cell?_of_block (hg1.block g hg (by intro e; injection e with e; exact hne e))).trans (HC.out r hr)
  have HD1 := Lib.hid hd1
  have HG1 := Lib.hid hg1
  have qr : (r : Int) < (n : Int) := by omega
  have q0 : (0 : Int) ≤ (r : Int) := by omega
  clear hd1 hg1
  go_wp2_with fail
  go_ret
  exact ⟨r, hr, rfl, HD1.out, HG1.out⟩
/-- A term without arguments that is right. -/
def LfT (t : Trm) : Prop := KitT t ∧ bareB t = true ∧ argsOk t = true
def trmZ : Array Value := #[.int .i64 0, .int .i64 0, .int .i64 0, .string ⟨#[]⟩, .string ⟨#[]⟩, .slice none 0 0]
def trmC (k n y : Int) (f x : ByteArray) : Array Value := #[.int .i64 k, .int .i64 n, .int .i64 y, .string f, .string x, .slice none 0 0]
/-- A term without arguments, as the plays make it. -/
def PlT (w : World) (db : Nat) (e : Ending) (w' : World) : Prop := ∃ k n y f x, e = .returned (.agg (trmC k n y f x)) ∧ LfT ⟨k, n, y, f, x, []⟩ ∧ Dc w' db ∧ w.grownBy w' (some db)
structure C1 (w W : World) (db bx : Nat) : Prop where
  dc : Dc W db
  res : Blk W w.heap.size 115 trmZ
  box : Blk W bx 25 #[.pointer (some ⟨db, 0, none⟩)]
  gw : w.grownBy W (some db)
  dl : db < w.heap.size
  bl : bx < w.heap.size
  ne : bx ≠ db
theorem C1.dice {w W W' : World} {db bx : Nat} (h : C1 w W db bx) (hd : Dc W' db) (hg : W.grownBy W' (some db)) : C1 w W' db bx :=
  ⟨hd, (hg.block _ h.res.lt (by intro e; injection e; have := h.dl; omega)).trans h.res, (hg.block _ h.box.lt (by intro e; injection e; exact h.ne (by omega))).trans h.box, gb_trans h.gw hg, h.dl, h.bl, h.ne⟩
theorem C1.drew {w W : World} {db bx : Nat} (h : C1 w W db bx) : C1 w W.drew db bx :=
  h.dice h.dc.drew (only_drewN (World.grownBy.refl W _) 1)
theorem C1.bc {w W : World} {db bx : Nat} (h : C1 w W db bx) : W.cell? ⟨bx, 0, none⟩ = some (.pointer (some ⟨db, 0, none⟩)) := (h.box.cell 0).trans rfl
theorem C1.rc {w W : World} {db bx : Nat} (h : C1 w W db bx) (i : Nat) : W.cell? ⟨w.heap.size, i, none⟩ = trmZ[i]? := h.res.cell i
theorem C1.rf {w W : World} {db bx : Nat} (h : C1 w W db bx) (i : Nat) : W.frozen? ⟨w.heap.size, i, none⟩ = false := h.res.frozen i
theorem C1.fin {w W : World} {db bx : Nat} (h : C1 w W db bx) (k n y : Int) (f x : ByteArray) :
    ∀ W2, W2 = (((((W.setCell ⟨w.heap.size, 0, none⟩ (.int .i64 k)).setCell ⟨w.heap.size, 1, none⟩ (.int .i64 n)).setCell ⟨w.heap.size, 2, none⟩ (.int .i64 y)).setCell ⟨w.heap.size, 3, none⟩ (.string f)).setCell ⟨w.heap.size, 4, none⟩ (.string x)).setCell ⟨w.heap.size, 5, none⟩ (.slice none 0 0) →
      (LfT ⟨k, n, y, f, x, []⟩ → PlT w db (.returned (.agg (trmC k n y f x))) W2) ∧ Blk W2 w.heap.size 115 (trmC k n y f x) := fun W2 hW2 => by
  have hc : Chg W W2 (fun q => q = w.heap.size) := by
    rw [hW2]
    exact Chg.setCell (Chg.setCell (Chg.setCell (Chg.setCell (Chg.setCell (Chg.setCell (Chg.refl W (fun q => q = w.heap.size)) ⟨w.heap.size, 0, none⟩ (fun _ => rfl) _) ⟨w.heap.size, 1, none⟩ (fun _ => rfl) _) ⟨w.heap.size, 2, none⟩ (fun _ => rfl) _) ⟨w.heap.size, 3, none⟩ (fun _ => rfl) _) ⟨w.heap.size, 4, none⟩ (fun _ => rfl) _) ⟨w.heap.size, 5, none⟩ (fun _ => rfl) _
  have hb : Blk W2 w.heap.size 115 (trmC k n y f x) := by
    rw [hW2]
    exact (((((h.res.set_ 0 _).set_ 1 _).set_ 2 _).set_ 3 _).set_ 4 _).set_ 5 _
  have hs := hc.size
  have h1 := h.dl
  refine ⟨fun hk => ⟨k, n, y, f, x, rfl, hk, h.dc.keep fun q hq => hc.block q (by have := h.dc.lt; omega) (by omega), ?_⟩, hb⟩
  exact ⟨hc.os.trans h.gw.os, hc.tape.trans h.gw.tape, hc.output.trans h.gw.output, Nat.le_trans h.gw.size hs, fun q hq hne => (hc.block q (Nat.lt_of_lt_of_le hq h.gw.size) (by omega)).trans (h.gw.block q hq hne)⟩
theorem kit_leafP (k n y : Int) : KitT ⟨k, n, y, E0, E0, []⟩ := ⟨by show (0 : Nat) ≤ 4; omega, by show (0 : Nat) ≤ 5; omega, (fun c hc => by cases hc), (fun c hc => by cases hc), by show (0 : Nat) ≤ 3; omega⟩
theorem kit_word (n : Int) : KitT ⟨7, n, 0, ⟨#[107, 105, 110, 100]⟩, ⟨#[97]⟩, []⟩ :=
  ⟨by show (4 : Nat) ≤ 4; omega, by show (1 : Nat) ≤ 5; omega, (by show ∀ c ∈ ([107, 105, 110, 100] : List UInt8), signB c = false; decide), (by show ∀ c ∈ ([97] : List UInt8), signB c = false; decide), by show (0 : Nat) ≤ 3; omega⟩
theorem lf_r (k : Int) (hk : k = 3 ∨ k = 4) (r : Nat) (h : r < 4) : LfT ⟨k, 1 + (r : Int), 0, E0, E0, []⟩ := by
  refine ⟨kit_leafP _ _ _, ?_⟩
  rcases hk with rfl | rfl <;> rcases (show r = 0 ∨ r = 1 ∨ r = 2 ∨ r = 3 by omega) with rfl | rfl | rfl | rfl <;> exact ⟨by decide, by decide⟩
theorem lf_y (r y : Nat) (h : r < 3) (hy : y < 3) : LfT ⟨5, IntKind.i64.wrap (1 + (r : Int)), (y : Int), E0, E0, []⟩ := by
  refine ⟨kit_leafP _ _ _, ?_⟩
  rcases (show r = 0 ∨ r = 1 ∨ r = 2 by omega) with rfl | rfl | rfl <;> rcases (show y = 0 ∨ y = 1 ∨ y = 2 by omega) with rfl | rfl | rfl <;> exact ⟨by decide, by decide⟩
theorem lf_0 (k : Int) (hk : k = 6 ∨ k = 8) : LfT ⟨k, 0, 0, E0, E0, []⟩ := by
  refine ⟨kit_leafP _ _ _, ?_⟩
  rcases hk with rfl | rfl <;> exact ⟨by decide, by decide⟩
theorem lf_w (r : Nat) (h : r < 2) : LfT ⟨7, 1 + (r : Int), 0, ⟨#[107, 105, 110, 100]⟩, ⟨#[97]⟩, []⟩ := by
  refine ⟨kit_word _, ?_⟩
  rcases (show r = 0 ∨ r = 1 by omega) with rfl | rfl <;> exact ⟨by decide, by decide⟩
/-- One right term, or three of which the first names the others: a right condition. -/
theorem root_one {k n y : Int} {f x : ByteArray} (h : LfT ⟨k, n, y, f, x, []⟩) : (rootF [⟨k, n, y, f, x, []⟩]).isSome = true := by
  obtain ⟨-, h1, h2⟩ := h
  simp [rootF, growF, growA, h1, h2]
theorem root_three {k0 k n y k' n' y' : Int} {f x f' x' : ByteArray} (h0 : k0 = 1 ∨ k0 = 2) (h : LfT ⟨k, n, y, f, x, []⟩) (h' : LfT ⟨k', n', y', f', x', []⟩) : (rootF [⟨k0, 0, 0, E0, E0, [1, 2]⟩, ⟨k, n, y, f, x, []⟩, ⟨k', n', y', f', x', []⟩]).isSome = true := by
  obtain ⟨-, h1, h2⟩ := h
  obtain ⟨-, h3, h4⟩ := h'
  have h5 : bareB ⟨k0, 0, 0, E0, E0, [1, 2]⟩ = true := by rcases h0 with rfl | rfl <;> decide
  have h6 : argsOk ⟨k0, 0, 0, E0, E0, [1, 2]⟩ = true := by rcases h0 with rfl | rfl <;> decide
  simp [rootF, growF, growA, h1, h2, h3, h4, h5, h6]
set_option maxRecDepth 100000 in
set_option maxHeartbeats 4000000 in
theorem p_Cond1 (db bx : Nat) (w : World) (hd : Dc w db) (hb : Blk w bx 25 #[.pointer (some ⟨db, 0, none⟩)]) (hne : bx ≠ db) :
    Calls Tryz.prog 78 #[.pointer (some ⟨bx, 0, none⟩)] w (PlT w db) := by
  have hlt := hd.lt
  have hbt := hb.lt
  have h1 : C1 w (w.alloc (.cells trmZ 115)) db bx := ⟨hd.alloc _, Blk.new w _ _, hb.alloc _, World.grownBy_alloc w _ (some db), hlt, hbt, hne⟩
  have H1 := Lib.hid h1
  have b1 := h1.bc
  unfold trmZ at b1
  have HN := Lib.hid (fun (n : Nat) (W : World) (h : C1 w W db bx) (q1 : 1 ≤ n) (q2 : n ≤ 1000) => (k_Next db n W h.dc q1 (by omega)).mono (R' := fun e W' => ∃ r : Nat, r < n ∧ e = .returned (.int .i64 (r : Int)) ∧ C1 w W' db bx) fun e W' hh => by
    obtain ⟨r, hr, he, hd, hg⟩ := hh
    exact ⟨r, hr, he, h.dice hd hg⟩)
  clear hd hb h1
  go_enter Tryz.func78, Tryz.ntmps78
  go_wp2_with fail
  refine (HN.out 8 _ H1.out (by omega) (by omega)).mono ?_
  rintro e w2 ⟨r, hr, rfl, h2⟩
  have H2 := Lib.hid h2
  have b2 := h2.bc
  have z0 := (h2.rc 0).trans (show _ = some (Value.int .i64 0) from rfl)
  have f0 := h2.rf 0
  have z1 := (h2.rc 1).trans (show _ = some (Value.int .i64 0) from rfl)
  have f1 := h2.rf 1
  have z2 := (h2.rc 2).trans (show _ = some (Value.int .i64 0) from rfl)
  have f2 := h2.rf 2
  have z3 := (h2.rc 3).trans (show _ = some (Value.string ⟨#[]⟩) from rfl)
  have f3 := h2.rf 3
  have z4 := (h2.rc 4).trans (show _ = some (Value.string ⟨#[]⟩) from rfl)
  have f4 := h2.rf 4
  have z5 := (h2.rc 5).trans (show _ = some (Value.slice none 0 0) from rfl)
  have f5 := h2.rf 5
  clear h2 H1 b1
  have hr8 : r = 0 ∨ r = 1 ∨ r = 2 ∨ r = 3 ∨ r = 4 ∨ r = 5 ∨ r = 6 ∨ r = 7 := by omega
  rcases hr8 with rfl | rfl | rfl | rfl | rfl | rfl | rfl | rfl
  all_goals clear hr
  · clear z0 z1 z2 z3 z4 z5 f0 f1 f2 f3 f4 f5
    go_wp2_with fail
    refine (HN.out 4 _ H2.out (by omega) (by omega)).mono ?_
    rintro e w3 ⟨r, hr, rfl, h3⟩
    have H3 := Lib.hid h3
    have z0 := (h3.rc 0).trans (show _ = some (Value.int .i64 0) from rfl)
    have f0 := h3.rf 0
    have z1 := (h3.rc 1).trans (show _ = some (Value.int .i64 0) from rfl)
    have f1 := h3.rf 1
    have z2 := (h3.rc 2).trans (show _ = some (Value.int .i64 0) from rfl)
    have f2 := h3.rf 2
    have z3 := (h3.rc 3).trans (show _ = some (Value.string ⟨#[]⟩) from rfl)
    have f3 := h3.rf 3
    have z4 := (h3.rc 4).trans (show _ = some (Value.string ⟨#[]⟩) from rfl)
    have f4 := h3.rf 4
    have z5 := (h3.rc 5).trans (show _ = some (Value.slice none 0 0) from rfl)
    have f5 := h3.rf 5
    clear h3 H2 b2
    go_wp2_with fail
    obtain ⟨fin, hb⟩ := H3.out.fin (3) (1 + (r : Int)) (0) ⟨#[]⟩ ⟨#[]⟩ _ rfl
    refine bodyPost_ret (v := .agg (trmC (3) (1 + (r : Int)) (0) ⟨#[]⟩ ⟨#[]⟩)) ?_ rfl (fin (by first | exact lf_r _ (by decide) _ (by omega) | exact lf_y _ _ (by omega) (by omega) | exact lf_0 _ (by decide)))
    simp [results, Tryz.results78, go_sem, (hb.cell 0).trans (show _ = some (Value.int .i64 (3)) from rfl), (hb.cell 1).trans (show _ = some (Value.int .i64 (1 + (r : Int))) from rfl), (hb.cell 2).trans (show _ = some (Value.int .i64 (0)) from rfl), (hb.cell 3).trans (show _ = some (Value.string ⟨#[]⟩) from rfl), (hb.cell 4).trans (show _ = some (Value.string ⟨#[]⟩) from rfl), (hb.cell 5).trans (show _ = some (Value.slice none 0 0) from rfl), trmC]
  · clear z0 z1 z2 z3 z4 z5 f0 f1 f2 f3 f4 f5
    go_wp2_with fail
    refine (HN.out 4 _ H2.out (by omega) (by omega)).mono ?_
    rintro e w3 ⟨r, hr, rfl, h3⟩
    have H3 := Lib.hid h3
    have z0 := (h3.rc 0).trans (show _ = some (Value.int .i64 0) from rfl)
    have f0 := h3.rf 0
    have z1 := (h3.rc 1).trans (show _ = some (Value.int .i64 0) from rfl)
    have f1 := h3.rf 1
    have z2 := (h3.rc 2).trans (show _ = some (Value.int .i64 0) from rfl)
    have f2 := h3.rf 2
    have z3 := (h3.rc 3).trans (show _ = some (Value.string ⟨#[]⟩) from rfl)
    have f3 := h3.rf 3
    have z4 := (h3.rc 4).trans (show _ = some (Value.string ⟨#[]⟩) from rfl)
    have f4 := h3.rf 4
    have z5 := (h3.rc 5).trans (show _ = some (Value.slice none 0 0) from rfl)
    have f5 := h3.rf 5
    clear h3 H2 b2
    go_wp2_with fail
    obtain ⟨fin, hb⟩ := H3.out.fin (3) (1 + (r : Int)) (0) ⟨#[]⟩ ⟨#[]⟩ _ rfl
    refine bodyPost_ret (v := .agg (trmC (3) (1 + (r : Int)) (0) ⟨#[]⟩ ⟨#[]⟩)) ?_ rfl (fin (by first | exact lf_r _ (by decide) _ (by omega) | exact lf_y _ _ (by omega) (by omega) | exact lf_0 _ (by decide)))
    simp [results, Tryz.results78, go_sem, (hb.cell 0).trans (show _ = some (Value.int .i64 (3)) from rfl), (hb.cell 1).trans (show _ = some (Value.int .i64 (1 + (r : Int))) from rfl), (hb.cell 2).trans (show _ = some (Value.int .i64 (0)) from rfl), (hb.cell 3).trans (show _ = some (Value.string ⟨#[]⟩) from rfl), (hb.cell 4).trans (show _ = some (Value.string ⟨#[]⟩) from rfl), (hb.cell 5).trans (show _ = some (Value.slice none 0 0) from rfl), trmC]
  · clear z0 z1 z2 z3 z4 z5 f0 f1 f2 f3 f4 f5
    go_wp2_with fail
    refine (HN.out 4 _ H2.out (by omega) (by omega)).mono ?_
    rintro e w3 ⟨r, hr, rfl, h3⟩
    have H3 := Lib.hid h3
    have z0 := (h3.rc 0).trans (show _ = some (Value.int .i64 0) from rfl)
    have f0 := h3.rf 0
    have z1 := (h3.rc 1).trans (show _ = some (Value.int .i64 0) from rfl)
    have f1 := h3.rf 1
    have z2 := (h3.rc 2).trans (show _ = some (Value.int .i64 0) from rfl)
    have f2 := h3.rf 2
    have z3 := (h3.rc 3).trans (show _ = some (Value.string ⟨#[]⟩) from rfl)
    have f3 := h3.rf 3
    have z4 := (h3.rc 4).trans (show _ = some (Value.string ⟨#[]⟩) from rfl)
    have f4 := h3.rf 4
    have z5 := (h3.rc 5).trans (show _ = some (Value.slice none 0 0) from rfl)
    have f5 := h3.rf 5
    clear h3 H2 b2
    go_wp2_with fail
    obtain ⟨fin, hb⟩ := H3.out.fin (3) (1 + (r : Int)) (0) ⟨#[]⟩ ⟨#[]⟩ _ rfl
    refine bodyPost_ret (v := .agg (trmC (3) (1 + (r : Int)) (0) ⟨#[]⟩ ⟨#[]⟩)) ?_ rfl (fin (by first | exact lf_r _ (by decide) _ (by omega) | exact lf_y _ _ (by omega) (by omega) | exact lf_0 _ (by decide)))
    simp [results, Tryz.results78, go_sem, (hb.cell 0).trans (show _ = some (Value.int .i64 (3)) from rfl), (hb.cell 1).trans (show _ = some (Value.int .i64 (1 + (r : Int))) from rfl), (hb.cell 2).trans (show _ = some (Value.int .i64 (0)) from rfl), (hb.cell 3).trans (show _ = some (Value.string ⟨#[]⟩) from rfl), (hb.cell 4).trans (show _ = some (Value.string ⟨#[]⟩) from rfl), (hb.cell 5).trans (show _ = some (Value.slice none 0 0) from rfl), trmC]
  · clear z0 z1 z2 z3 z4 z5 f0 f1 f2 f3 f4 f5
    go_wp2_with fail
    refine (HN.out 3 _ H2.out (by omega) (by omega)).mono ?_
    rintro e w3 ⟨r, hr, rfl, h3⟩
    have H3 := Lib.hid h3
    have z0 := (h3.rc 0).trans (show _ = some (Value.int .i64 0) from rfl)
    have f0 := h3.rf 0
    have z1 := (h3.rc 1).trans (show _ = some (Value.int .i64 0) from rfl)
    have f1 := h3.rf 1
    have z2 := (h3.rc 2).trans (show _ = some (Value.int .i64 0) from rfl)
    have f2 := h3.rf 2
    have z3 := (h3.rc 3).trans (show _ = some (Value.string ⟨#[]⟩) from rfl)
    have f3 := h3.rf 3
    have z4 := (h3.rc 4).trans (show _ = some (Value.string ⟨#[]⟩) from rfl)
    have f4 := h3.rf 4
    have z5 := (h3.rc 5).trans (show _ = some (Value.slice none 0 0) from rfl)
    have f5 := h3.rf 5
    clear h3 H2 b2
    go_wp2_with fail
    obtain ⟨fin, hb⟩ := H3.out.fin (4) (1 + (r : Int)) (0) ⟨#[]⟩ ⟨#[]⟩ _ rfl
    refine bodyPost_ret (v := .agg (trmC (4) (1 + (r : Int)) (0) ⟨#[]⟩ ⟨#[]⟩)) ?_ rfl (fin (by first | exact lf_r _ (by decide) _ (by omega) | exact lf_y _ _ (by omega) (by omega) | exact lf_0 _ (by decide)))
    simp [results, Tryz.results78, go_sem, (hb.cell 0).trans (show _ = some (Value.int .i64 (4)) from rfl), (hb.cell 1).trans (show _ = some (Value.int .i64 (1 + (r : Int))) from rfl), (hb.cell 2).trans (show _ = some (Value.int .i64 (0)) from rfl), (hb.cell 3).trans (show _ = some (Value.string ⟨#[]⟩) from rfl), (hb.cell 4).trans (show _ = some (Value.string ⟨#[]⟩) from rfl), (hb.cell 5).trans (show _ = some (Value.slice none 0 0) from rfl), trmC]
  · clear z0 z1 z2 z3 z4 z5 f0 f1 f2 f3 f4 f5
    have H2d := Lib.hid H2.out.drew
    have b2d := H2d.out.bc
    have HN3 : Hid (∀ W : World, C1 w W db bx → Calls Tryz.prog 8 #[.pointer (some ⟨db, 0, none⟩), .int .i64 3] W fun e W' => ∃ r : Nat, r < 3 ∧ e = .returned (.int .i64 (r : Int)) ∧ C1 w W' db bx) := Lib.hid fun W h => HN.out 3 W h (by omega) (by omega)
    go_upto_region 9 with fail
    go_region_law (first
      | ((try go_simp); go_at_call 8; first
        | ((with_reducible refine (HN3.out _ H2d.out).mono ?_); rintro e w3 ⟨r3, hr3, rfl, h3⟩; have H3 := Lib.hid h3; have b3 := h3.bc; clear h3)
        | ((with_reducible refine (HN3.out _ H3.out).mono ?_); rintro e w4 ⟨r4, hr4, rfl, h4⟩; have H4 := Lib.hid h4; have b4 := h4.bc; have z0 := (h4.rc 0).trans (show _ = some (Value.int .i64 0) from rfl); have f0 := h4.rf 0; have z1 := (h4.rc 1).trans (show _ = some (Value.int .i64 0) from rfl); have f1 := h4.rf 1; have z2 := (h4.rc 2).trans (show _ = some (Value.int .i64 0) from rfl); have f2 := h4.rf 2; have z3 := (h4.rc 3).trans (show _ = some (Value.string ⟨#[]⟩) from rfl); have f3 := h4.rf 3; have z4 := (h4.rc 4).trans (show _ = some (Value.string ⟨#[]⟩) from rfl); have f4 := h4.rf 4; have z5 := (h4.rc 5).trans (show _ = some (Value.slice none 0 0) from rfl); have f5 := h4.rf 5; clear h4)))
    all_goals
      clear H2 H2d b2 b2d H3 b3 b4 HN HN3
      go_wp2_with fail
      obtain ⟨fin, hb⟩ := H4.out.fin 5 (IntKind.i64.wrap (1 + (r3 : Int))) (r4) ⟨#[]⟩ ⟨#[]⟩ _ rfl
      refine bodyPost_ret (v := .agg (trmC 5 (IntKind.i64.wrap (1 + (r3 : Int))) (r4) ⟨#[]⟩ ⟨#[]⟩)) ?_ rfl (fin (by first | exact lf_r _ (by decide) _ (by omega) | exact lf_y _ _ (by omega) (by omega) | exact lf_0 _ (by decide)))
      simp [results, Tryz.results78, go_sem, (hb.cell 0).trans (show _ = some (Value.int .i64 5) from rfl), (hb.cell 1).trans (show _ = some (Value.int .i64 (IntKind.i64.wrap (1 + (r3 : Int)))) from rfl), (hb.cell 2).trans (show _ = some (Value.int .i64 (r4)) from rfl), (hb.cell 3).trans (show _ = some (Value.string ⟨#[]⟩) from rfl), (hb.cell 4).trans (show _ = some (Value.string ⟨#[]⟩) from rfl), (hb.cell 5).trans (show _ = some (Value.slice none 0 0) from rfl), trmC]
  · go_wp2_with fail
    obtain ⟨fin, hb⟩ := H2.out.fin (6) (0) (0) ⟨#[]⟩ ⟨#[]⟩ _ rfl
    refine bodyPost_ret (v := .agg (trmC (6) (0) (0) ⟨#[]⟩ ⟨#[]⟩)) ?_ rfl (fin (by first | exact lf_r _ (by decide) _ (by omega) | exact lf_y _ _ (by omega) (by omega) | exact lf_0 _ (by decide)))
    simp [results, Tryz.results78, go_sem, (hb.cell 0).trans (show _ = some (Value.int .i64 (6)) from rfl), (hb.cell 1).trans (show _ = some (Value.int .i64 (0)) from rfl), (hb.cell 2).trans (show _ = some (Value.int .i64 (0)) from rfl), (hb.cell 3).trans (show _ = some (Value.string ⟨#[]⟩) from rfl), (hb.cell 4).trans (show _ = some (Value.string ⟨#[]⟩) from rfl), (hb.cell 5).trans (show _ = some (Value.slice none 0 0) from rfl), trmC]
  · clear z0 z1 z2 z3 z4 z5 f0 f1 f2 f3 f4 f5
    go_wp2_with fail
    refine (HN.out 2 _ H2.out (by omega) (by omega)).mono ?_
    rintro e w3 ⟨r, hr, rfl, h3⟩
    have H3 := Lib.hid h3
    have z0 := (h3.rc 0).trans (show _ = some (Value.int .i64 0) from rfl)
    have f0 := h3.rf 0
    have z1 := (h3.rc 1).trans (show _ = some (Value.int .i64 0) from rfl)
    have f1 := h3.rf 1
    have z2 := (h3.rc 2).trans (show _ = some (Value.int .i64 0) from rfl)
    have f2 := h3.rf 2
    have z3 := (h3.rc 3).trans (show _ = some (Value.string ⟨#[]⟩) from rfl)
    have f3 := h3.rf 3
    have z4 := (h3.rc 4).trans (show _ = some (Value.string ⟨#[]⟩) from rfl)
    have f4 := h3.rf 4
    have z5 := (h3.rc 5).trans (show _ = some (Value.slice none 0 0) from rfl)
    have f5 := h3.rf 5
    clear h3 H2 b2
    go_wp2_with fail
    obtain ⟨fin, hb⟩ := H3.out.fin (7) (1 + (r : Int)) (0) ⟨#[107, 105, 110, 100]⟩ ⟨#[97]⟩ _ rfl
    refine bodyPost_ret (v := .agg (trmC (7) (1 + (r : Int)) (0) ⟨#[107, 105, 110, 100]⟩ ⟨#[97]⟩)) ?_ rfl (fin (lf_w _ (by omega)))
    simp [results, Tryz.results78, go_sem, (hb.cell 0).trans (show _ = some (Value.int .i64 (7)) from rfl), (hb.cell 1).trans (show _ = some (Value.int .i64 (1 + (r : Int))) from rfl), (hb.cell 2).trans (show _ = some (Value.int .i64 (0)) from rfl), (hb.cell 3).trans (show _ = some (Value.string ⟨#[107, 105, 110, 100]⟩) from rfl), (hb.cell 4).trans (show _ = some (Value.string ⟨#[97]⟩) from rfl), (hb.cell 5).trans (show _ = some (Value.slice none 0 0) from rfl), trmC]
  · go_wp2_with fail
    obtain ⟨fin, hb⟩ := H2.out.fin (8) (0) (0) ⟨#[]⟩ ⟨#[]⟩ _ rfl
    refine bodyPost_ret (v := .agg (trmC (8) (0) (0) ⟨#[]⟩ ⟨#[]⟩)) ?_ rfl (fin (by first | exact lf_r _ (by decide) _ (by omega) | exact lf_y _ _ (by omega) (by omega) | exact lf_0 _ (by decide)))
    simp [results, Tryz.results78, go_sem, (hb.cell 0).trans (show _ = some (Value.int .i64 (8)) from rfl), (hb.cell 1).trans (show _ = some (Value.int .i64 (0)) from rfl), (hb.cell 2).trans (show _ = some (Value.int .i64 (0)) from rfl), (hb.cell 3).trans (show _ = some (Value.string ⟨#[]⟩) from rfl), (hb.cell 4).trans (show _ = some (Value.string ⟨#[]⟩) from rfl), (hb.cell 5).trans (show _ = some (Value.slice none 0 0) from rfl), trmC]
end Go.Proofs.YtgeahbmaeaoeeaaGreatDoor.Pa
