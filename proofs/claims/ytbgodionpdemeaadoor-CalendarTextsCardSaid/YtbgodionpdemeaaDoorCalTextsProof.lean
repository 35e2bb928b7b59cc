/- CalendarTexts returns true at every input; condition: the variables of the library that the row lists start as the text of the library lays them (tied by the card). -/
import Derived.Test.YtbgodionpdemeaaDoorRows
import Derived.Test.YtbgodionpdemeaaDoorCards
import Derived.Test.YtbgodionpdemeaaDoorTie
import Derived.Test.YtbgodionpdemeaaDoorCalLawT
import Derived.WalkKit
import Derived.ProofKit
import Derived.OpenShut
import Derived.ShutString
import Derived.ChangeOld
import Derived.Below
import Derived.LaidMore
import Derived.Lay
import Derived.LaidLaws
import Derived.MakeChecks
import Derived.Lib.LaidTab
import Derived.SevenTiedAt
import Derived.Stop.Joined
set_option linter.unusedVariables false
set_option linter.unusedSimpArgs false
namespace Go.Proofs.YtbgodionpdemeaaDoor.calendarTextsP
open Go.ChangeShapes Go.WideShapes Go.ChangeAt Go.RowKit Cal
open Go.ChangeMaps (open_string shut_string)

theorem own : ownKnob Tryd.prog.godebug = none := by kernel_rfl
/-- What the row lists. -/
def laidL : List (String × DataW Unit) := Rows.calendarTextsRow.laid
theorem of_laid {W : World} (h : laidMetH Tryd.prog laidL W) (hsh : W.ShapedOpen Tryd.prog) : LibOk W := by
  rw [MakeChecks.laidMetH_plain _ _ _ (by kernel_rfl)] at h
  obtain ⟨ps, ⟨g0, t0, cs0, f0, p0, q0, hg0, ht0, hv0, hd0, ⟨g1, t1, cs1, f1, p1, q1, hg1, ht1, hv1, hd1, ⟨g2, t2, cs2, f2, p2, q2, hg2, ht2, hv2, hd2, ⟨g3, t3, cs3, f3, p3, q3, hg3, ht3, hv3, hd3, ⟨g4, t4, cs4, f4, p4, q4, hg4, ht4, hv4, hd4, ⟨g5, t5, cs5, f5, p5, q5, hg5, ht5, hv5, hd5, _⟩, _⟩, _⟩, _⟩, _⟩, _⟩, _⟩ := h
  have htab : TabOk W := by
    obtain rfl := Option.some.inj ((show Tryd.prog.globalNamed "internal/strconv.uint64pow10" = some 3 by kernel_rfl).symm.trans hg2)
    obtain rfl := Option.some.inj ((show (Tryd.prog.globals[3]?).map (·.type) = some 106 by kernel_rfl).symm.trans ht2)
    have e := Lib.cells_of_tab (zs := Lib.pow10Tab) Tryd.underlying106 Tryd.underlying79 (by kernel_rfl) (by kernel_rfl) hd2
    show W.var? Tryd.prog "internal/strconv.uint64pow10" = _
    rw [hv2]
    exact congrArg some (by apply Array.toList_inj.1; simpa using e)
  have s1 : ∃ tp p, W.cell? ⟨0, 0, none⟩ = some (.iface tp p) := by
    have hg := (show Tryd.prog.globalNamed "strconv.ErrSyntax" = some 0 by kernel_rfl)
    obtain rfl := Option.some.inj (hg.symm.trans hg5)
    obtain rfl := Option.some.inj ((show (Tryd.prog.globals[0]?).map (·.type) = some 46 by kernel_rfl).symm.trans ht5)
    obtain ⟨_, u, v, h1, _⟩ := iface_of_trod Tryd.underlying46 hd5
    have e0 : cs5 = #[.iface u v] := Array.toList_inj.1 h1
    have h2 := World.var?_cell hg hv5 0
    rw [e0] at h2
    exact ⟨u, v, by simpa using h2⟩
  have s2 : ∃ tp p, W.cell? ⟨1, 0, none⟩ = some (.iface tp p) := by
    have hg := (show Tryd.prog.globalNamed "strconv.ErrRange" = some 1 by kernel_rfl)
    obtain rfl := Option.some.inj (hg.symm.trans hg4)
    obtain rfl := Option.some.inj ((show (Tryd.prog.globals[1]?).map (·.type) = some 46 by kernel_rfl).symm.trans ht4)
    obtain ⟨_, u, v, h1, _⟩ := iface_of_trod Tryd.underlying46 hd4
    have e0 : cs4 = #[.iface u v] := Array.toList_inj.1 h1
    have h2 := World.var?_cell hg hv4 0
    rw [e0] at h2
    exact ⟨u, v, by simpa using h2⟩
  have s3 : ∃ m, W.cell? ⟨2, 0, none⟩ = some (.int .i64 m) := cell_of_shapedOpen_int (zero := #[.int .i64 0]) (t := 3) hsh (of_decide_eq_true (by kernel_rfl)) (by kernel_rfl) rfl (by kernel_rfl) (by kernel_rfl) Tryd.underlying3
  have s4 := tab_lt htab
  exact ⟨htab, s1, s2, s3, s4⟩

theorem walkw (a0 : Int) (a1 : ByteArray) (a2 a3 : Int) (W : World) (w0 : (Lit.int .i64 a0).wf = true) (w1 : a1.size ≤ maxLen) (w2 : (Lit.int .i64 a2).wf = true) (w3 : (Lit.int .i64 a3).wf = true) (h : LibOk W) :
    Calls Tryd.prog 4 #[.int .i64 a0, .string a1, .int .i64 a2, .int .i64 a3] W fun e w' => e = .returned (.bool true) ∧ Below W.heap.size W w' := law_texts a0 a1 a2 a3 W h

set_option maxRecDepth 100000 in
theorem lifted (os : Os) (started : os.Started) (H : Type) (enc : TypeId × Value → H) :
    ReturnsInHanded {} Tryd.checked os 4 .any (fun w args => (Rows.calendarTextsSpec.pre enc Tryd.prog Tryd.f4 [] false w args ∧ laidMetH Tryd.prog laidL w) ∧ sizedMet enc Tryd.prog Tryd.f4 (OpenSpec.ofChange Rows.calendarTextsSpec) false w args)
      (Rows.calendarTextsSpec.post enc Tryd.prog Tryd.f4 false true false false) := by
  refine returnsInHanded_of_calls (C := Tryd.checked) own started (by kernel_rfl)
    (ChangeSpec.witness_shaped (enc := enc) (C := Tryd.checked) (os := os) (X := fun w _ => laidMetH Tryd.prog laidL w) false (World.laidAll Tryd.prog os laidL) #[.int .i64 0, .string ByteArray.empty, .int .i64 0, .int .i64 0] 8 (World.laidAll_os _ _ _) (World.shaped_of_ZipB (by kernel_rfl) (by kernel_rfl)) (by kernel_rfl) (by kernel_rfl) (by kernel_rfl)
      (by rw [MakeChecks.laidMetH_plain _ _ _ (by kernel_rfl)]; exact laidMet_laidAll _ (by kernel_rfl) (by kernel_rfl))) ?_
  intro wz tape inp _ hsh _ hok hpre hholds
  obtain ⟨_, _, _, fn', hfn', _, _, _, _, hval⟩ := hok
  obtain rfl : fn' = Tryd.f4 := Option.some.inj (hfn'.symm.trans Tryd.func4)
  obtain ⟨⟨⟨ds, gs, before, hw, _⟩, hx⟩, _⟩ := hpre
  have hW := DataW.Whole.of_heap (w' := wz.forCall tape inp) (by rfl) hw
  have hL : laidMetH Tryd.prog laidL (wz.forCall tape inp) := hx.of_heap (by rfl)
  suffices key : Calls Tryd.prog 4 inp.args (wz.forCall tape inp) fun e W' => ∃ v, e = .returned v ∧ Rows.calendarTextsSpec.post enc Tryd.prog Tryd.f4 false true false false (wz.forCall tape inp) inp.args v W' from
    key.mono fun e W' ⟨v, he, hp⟩ => by subst he; exact ChangeSpec.post_blind hp
  clear hw hx hholds hfn'
  generalize wz.forCall tape inp = W at *
  generalize inp.args = args at *
  generalize wz.heap.size = base at *
  have hval : ∀ (j : Nat) t v, Tryd.f4.params[j]? = some t → args[j]? = some v → Value.okWide Tryd.prog W .any base t v := hval
  have hW' := hW
  obtain ⟨p, q, hA0, hV, rfl, hfz, hnd⟩ := hW
  have hA : DataW.TrodAll enc Tryd.prog W 0 (fun _ => true) true Tryd.f4.params.toList args.toList ds p := hA0
  rw [Tryd.params4] at hA hval
  obtain ⟨v0, vs0, d0, ds0, p0, q0, hargs, rfl, rfl, h0, r0⟩ := trodAll_cons hA
  obtain ⟨v1, vs1, d1, ds1, p1, q1, rfl, rfl, rfl, h1, r1⟩ := trodAll_cons r0
  obtain ⟨v2, vs2, d2, ds2, p2, q2, rfl, rfl, rfl, h2, r2⟩ := trodAll_cons r1
  obtain ⟨v3, vs3, d3, ds3, p3, q3, rfl, rfl, rfl, h3, r3⟩ := trodAll_cons r2
  obtain ⟨rfl, rfl, rfl⟩ := trodAll_nil r3
  obtain rfl : args = #[v0, v1, v2, v3] := by cases args; simp_all
  obtain ⟨rfl, rfl⟩ := trodVars_none hV
  obtain ⟨a0, rfl, rfl, rfl, w0⟩ := open_int Tryd.underlying3 (hval 0 3 v0 rfl rfl) h0
  obtain ⟨a1, rfl, rfl, rfl, w1⟩ := open_string Tryd.underlying9 (hval 1 9 v1 rfl rfl) h1
  obtain ⟨a2, rfl, rfl, rfl, w2⟩ := open_int Tryd.underlying3 (hval 2 3 v2 rfl rfl) h2
  obtain ⟨a3, rfl, rfl, rfl, w3⟩ := open_int Tryd.underlying3 (hval 3 3 v3 rfl rfl) h3
  clear hA0
  refine (walkw a0 a1 a2 a3 W w0 w1 w2 w3 (of_laid hL hsh)).mono fun e W' ⟨he, bel⟩ => ?_
  subst he
  exact ⟨_, rfl, _, _, _, [], _, [], hW', trodAll_mk1 (shut_bool Tryd.underlying4 _), (trodAll_cons_mk (shut_int Tryd.underlying3 w0) (trodAll_cons_mk (shut_string Tryd.underlying9 w1) (trodAll_cons_mk (shut_int Tryd.underlying3 w2) (trodAll_cons_mk (shut_int Tryd.underlying3 w3) trodAll_mk0)))), rfl, bel.frame _, fun h => by cases h⟩

theorem over : Rows.calendarTextsRow.holds Tryd.pinned (OpenSpec.ofChange Rows.calendarTextsSpec) :=
  OpenClaim.holds_of_wide 4 Tryd.f4 rfl rfl rfl rfl rfl rfl rfl ⟨rfl, rfl, rfl, rfl, rfl⟩ rfl rfl rfl rfl rfl (by kernel_rfl) Tryd.func4 (by kernel_rfl)
    (of_decide_eq_true (by kernel_rfl)) (by unfold Func.isWrapper; first | (rw [if_pos (by decide +kernel)]; kernel_rfl) | (rw [if_neg (by decide +kernel)]; exact ⟨rfl, rfl⟩))
    (fun os started H enc _ => lifted os started H enc)

/-- The tied card. -/
theorem proved : Rows.CalendarTextsCardSaid :=
  Claim7.holds_tied_plain_at .later [] [.data, .data, .data, .data, .sentinel, .sentinel, .pinned] true (true, "02de06eeed97021c39eb76bdf1a10748bb98d26caec33431b731f96c0f92184f") true
    over (fun _ h => by cases h) (by kernel_rfl) (fun _ h => by cases h) calendarTexts_row_tie rfl ⟨rfl, rfl⟩ (by kernel_rfl) rfl
    (fun f fn hf hfn => by
      obtain rfl : f = 4 := Option.some.inj ((show Tryd.prog.funcNamed Tryd.f4.name = some 4 by kernel_rfl).symm.trans hf) |>.symm
      obtain rfl : fn = Tryd.f4 := (Option.some.inj (Tryd.func4.symm.trans hfn)).symm
      exact ⟨by kernel_rfl, fun j t ht => by
        rw [Tryd.params4] at ht
        have h3 : t ∈ ([3, 9] : List TypeId) := by
          match j, ht with
          | 0, ht => simp at ht; subst ht; decide
          | 1, ht => simp at ht; subst ht; decide
          | 2, ht => simp at ht; subst ht; decide
          | 3, ht => simp at ht; subst ht; decide
          | _ + 4, ht => simp at ht
        have h4 : ([3, 9] : List TypeId).all (fun t => !Tryd.prog.wantsStandIn t) = true := by kernel_rfl
        exact (show Tryd.prog.wantsStandIn t = false by simpa using List.all_eq_true.1 h4 t h3)⟩)
    (by kernel_rfl)
end Go.Proofs.YtbgodionpdemeaaDoor.calendarTextsP
