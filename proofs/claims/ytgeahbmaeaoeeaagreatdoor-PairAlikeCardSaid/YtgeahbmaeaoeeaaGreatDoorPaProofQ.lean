/- The tied card of PairAlike: the law returns true for every list of numbers. -/
import Derived.Test.YtgeahbmaeaoeeaaGreatDoorRows
import Derived.Test.YtgeahbmaeaoeeaaGreatDoorCards
import Derived.Test.YtgeahbmaeaoeeaaGreatDoorTie
import Derived.Test.YtgeahbmaeaoeeaaGreatDoorQ46
import Derived.WalkKit
import Derived.ProofKit
import Derived.OpenShut
import Derived.ShutString
import Derived.ChangeOld
import Derived.Below
import Derived.Carry
import Derived.LaidMore
import Derived.Lay
import Derived.LaidLaws
import Derived.MakeChecks
import Derived.Lib.LaidTab
import Derived.SevenTiedAt
import Derived.Stop.Joined
set_option linter.unusedVariables false
set_option linter.unusedSimpArgs false
namespace Go.Proofs.YtgeahbmaeaoeeaaGreatDoor.pairAlikeP
open Go.ChangeShapes Go.WideShapes Go.ChangeAt Go.RowKit
open Go.ChangeMaps (open_string shut_string)

theorem own : ownKnob Tryz.prog.godebug = none := by kernel_rfl
theorem laidOut : laidOutB Tryz.prog = true := by kernel_rfl
/-- What the row lists. -/
def laidL : List (String × DataW Unit) := Rows.pairAlikeRow.laid
theorem of_laid {W : World} (h : laidMetH Tryz.prog laidL W) (hsh : W.ShapedOpen Tryz.prog) : BasesOk W ∧ LibOk W := by
  rw [MakeChecks.laidMetH_plain _ _ _ (by kernel_rfl)] at h
  obtain ⟨ps, ⟨g0, t0, cs0, f0, p0, q0, hg0, ht0, hv0, hd0, ⟨g1, t1, cs1, f1, p1, q1, hg1, ht1, hv1, hd1, ⟨g2, t2, cs2, f2, p2, q2, hg2, ht2, hv2, hd2, ⟨g3, t3, cs3, f3, p3, q3, hg3, ht3, hv3, hd3, _⟩, _⟩, _⟩, _⟩, _⟩ := h
  have htab : TabOk W := by
    obtain rfl := Option.some.inj ((show Tryz.prog.globalNamed "internal/strconv.uint64pow10" = some 2 by kernel_rfl).symm.trans hg2)
    obtain rfl := Option.some.inj ((show (Tryz.prog.globals[2]?).map (·.type) = some 213 by kernel_rfl).symm.trans ht2)
    have e := Lib.cells_of_tab (zs := Lib.pow10Tab) Tryz.underlying213 Tryz.underlying157 (by kernel_rfl) (by kernel_rfl) hd2
    show W.var? Tryz.prog "internal/strconv.uint64pow10" = _
    rw [hv2]
    exact congrArg some (by apply Array.toList_inj.1; simpa using e)
  have s3 : ∃ m, W.cell? ⟨1, 0, none⟩ = some (.int .i64 m) := cell_of_shapedOpen_int (zero := #[.int .i64 0]) (t := 3) hsh (of_decide_eq_true (by kernel_rfl)) (by kernel_rfl) rfl (by kernel_rfl) (by kernel_rfl) Tryz.underlying3
  have s4 : 4 < W.heap.size := by
    have hg := (show Tryz.prog.globalNamed "math/bits.deBruijn64tab" = some 4 by kernel_rfl)
    unfold World.var? at hv1
    rw [hg] at hv1
    simp only [Option.bind_some] at hv1
    refine Nat.not_lt.1 fun hc => ?_
    rw [Array.getElem?_eq_none (by omega)] at hv1
    cases hv1
  have hg := (show Tryz.prog.globalNamed "reportescrow/field.bases" = some 0 by kernel_rfl)
  obtain rfl := Option.some.inj (hg.symm.trans hg3)
  obtain rfl := Option.some.inj ((show (Tryz.prog.globals[0]?).map (·.type) = some 139 by kernel_rfl).symm.trans ht3)
  have e := Lib.cells_of_tab (zs := [2, 3, 5, 7]) (k := .i64) Tryz.underlying139 Tryz.underlying3 (by kernel_rfl) (by kernel_rfl) hd3
  have e0 : cs3 = #[.int .i64 2, .int .i64 3, .int .i64 5, .int .i64 7] := by apply Array.toList_inj.1; simpa using e
  subst e0
  have c := fun i => World.var?_cell hg hv3 i
  exact ⟨⟨by simpa using c 0, by simpa using c 1, by simpa using c 2, by simpa using c 3⟩, ⟨htab, s3, s4⟩⟩

theorem walkw (a0 : Option Addr) (n0 c0 : Nat) (W : World) (f0 : n0 ≤ 9223372036854775807 ∧ (n0 ≤ 500 → ArgL W (.slice a0 n0 c0))) (h : BasesOk W ∧ LibOk W) :
    Calls Tryz.prog 4 #[.slice a0 n0 c0] W fun e W' => e = .returned (.bool true) ∧ Below W.heap.size W W' :=
  (Pa.l_PairAlike a0 n0 c0 W h.1 h.2 f0.1 f0.2).mono fun e w' h => h

set_option maxRecDepth 100000 in
theorem lifted (os : Os) (started : os.Started) (H : Type) (enc : TypeId × Value → H) :
    ReturnsInHanded {} Tryz.checked os 4 .any (fun w args => (Rows.pairAlikeSpec.pre enc Tryz.prog Tryz.f4 [] false w args ∧ laidMetH Tryz.prog laidL w) ∧ sizedMet enc Tryz.prog Tryz.f4 (OpenSpec.ofChange Rows.pairAlikeSpec) false w args)
      (Rows.pairAlikeSpec.post enc Tryz.prog Tryz.f4 false true false false) := by
  refine returnsInHanded_of_calls (C := Tryz.checked) own started (by kernel_rfl)
    (ChangeSpec.witness_shaped (enc := enc) (C := Tryz.checked) (os := os) (X := fun w _ => laidMetH Tryz.prog laidL w) false (World.laidAll Tryz.prog os laidL) #[.slice none 0 0] 8 (World.laidAll_os _ _ _) (World.shaped_of_ZipB (by kernel_rfl) (by kernel_rfl)) (by kernel_rfl) (by kernel_rfl) (by kernel_rfl)
      (by rw [MakeChecks.laidMetH_plain _ _ _ (by kernel_rfl)]; exact laidMet_laidAll _ (by kernel_rfl) (by kernel_rfl))) ?_
  intro wz tape inp _ hsh _ hok hpre hholds
  obtain ⟨_, _, _, fn', hfn', _, _, _, _, hval⟩ := hok
  obtain rfl : fn' = Tryz.f4 := Option.some.inj (hfn'.symm.trans Tryz.func4)
  obtain ⟨⟨_, hx⟩, ⟨_, ds, gs, before, hw, hszall⟩⟩ := hpre
  have hW := DataW.Whole.of_heap (w' := wz.forCall tape inp) (by rfl) hw
  have hL : laidMetH Tryz.prog laidL (wz.forCall tape inp) := hx.of_heap (by rfl)
  suffices key : Calls Tryz.prog 4 inp.args (wz.forCall tape inp) fun e W' => ∃ v, e = .returned v ∧ Rows.pairAlikeSpec.post enc Tryz.prog Tryz.f4 false true false false (wz.forCall tape inp) inp.args v W' from
    key.mono fun e W' ⟨v, he, hp⟩ => by subst he; exact ChangeSpec.post_blind hp
  clear hw hx hholds hfn'
  generalize wz.forCall tape inp = W at *
  generalize inp.args = args at *
  generalize wz.heap.size = base at *
  have hval : ∀ (j : Nat) t v, Tryz.f4.params[j]? = some t → args[j]? = some v → Value.okWide Tryz.prog W .any base t v := hval
  have hW' := hW
  obtain ⟨p, q, hA0, hV, rfl, hfz, hnd⟩ := hW
  have hA : DataW.TrodAll enc Tryz.prog W 0 (fun _ => true) true Tryz.f4.params.toList args.toList ds p := hA0
  rw [Tryz.params4] at hA hval
  obtain ⟨v0, vs0, d0, ds0, p0, q0, hargs, rfl, rfl, h0, r0⟩ := trodAll_cons hA
  obtain ⟨rfl, rfl, rfl⟩ := trodAll_nil r0
  obtain rfl : args = #[v0] := by cases args; simp_all
  obtain ⟨rfl, rfl⟩ := trodVars_none hV
  have hlt : ∀ x ∈ (p0 ++ ([])), x.block < W.heap.size := fun x hx => by simpa using hW'.lt x (by simpa using hx)
  obtain ⟨a0, n0, c0, rfl⟩ := okWide_slice Tryz.underlying22 (hval 0 22 v0 rfl rfl)
  have lt0 : ∀ x ∈ p0, x.block < W.heap.size := fun x hx => hlt x (by simp [hx])
  have back0 : ∀ (W' : World), Below W.heap.size W W' → DataW.Trod enc Tryz.prog W' 0 (fun b => decide (b < W.heap.size)) true 22 (.slice a0 n0 c0) d0 p0 :=
    fun W' hn => Below.trod laidOut (by kernel_rfl) (of_decide_eq_true (by kernel_rfl)) h0 hn lt0
  have fact0 := ints_fact Tryz.underlying22 Tryz.underlying3 (by kernel_rfl) h0 lt0
  clear hA0
  refine (walkw a0 n0 c0 W fact0 (of_laid hL hsh)).mono fun e W' ⟨he, bel⟩ => ?_
  subst he
  exact ⟨_, rfl, _, _, _, [], _, [], hW', trodAll_mk1 (shut_bool Tryz.underlying4 _), (trodAll_cons_mk (back0 _ bel) trodAll_mk0), rfl, bel.frame _, fun h => by cases h⟩

theorem over : Rows.pairAlikeRow.holds Tryz.pinned (OpenSpec.ofChange Rows.pairAlikeSpec) :=
  OpenClaim.holds_of_wide 4 Tryz.f4 rfl rfl rfl rfl rfl rfl rfl ⟨rfl, rfl, rfl, rfl, rfl⟩ rfl rfl rfl rfl rfl (by kernel_rfl) Tryz.func4 (by kernel_rfl)
    (of_decide_eq_true (by kernel_rfl)) (by unfold Func.isWrapper; first | (rw [if_pos (by decide +kernel)]; kernel_rfl) | (rw [if_neg (by decide +kernel)]; exact ⟨rfl, rfl⟩))
    (fun os started H enc _ => lifted os started H enc)

/-- The tied card. -/
theorem proved : Rows.PairAlikeCardSaid :=
  Claim7.holds_tied_plain_at .later [] [.data, .data, .data, .data] true (true, "0b1efb7562a72c05ffcb939cd9efd8dd187bca1c45b1f99686faec234985172a") false
    over (fun _ h => by cases h) (by kernel_rfl) (fun _ h => by cases h) pairAlike_row_tie rfl ⟨rfl, rfl⟩ (by kernel_rfl) rfl
    (fun f fn hf hfn => by
      obtain rfl : f = 4 := Option.some.inj ((show Tryz.prog.funcNamed Tryz.f4.name = some 4 by kernel_rfl).symm.trans hf) |>.symm
      obtain rfl : fn = Tryz.f4 := (Option.some.inj (Tryz.func4.symm.trans hfn)).symm
      exact ⟨by kernel_rfl, fun j t ht => by
        rw [Tryz.params4] at ht
        have h3 : t ∈ ([22] : List TypeId) := by
          match j, ht with
          | 0, ht => simp at ht; subst ht; decide
          | _ + 1, ht => simp at ht
        have h4 : ([22] : List TypeId).all (fun t => !Tryz.prog.wantsStandIn t) = true := by kernel_rfl
        exact (show Tryz.prog.wantsStandIn t = false by simpa using List.all_eq_true.1 h4 t h3)⟩)
    (by kernel_rfl)
end Go.Proofs.YtgeahbmaeaoeeaaGreatDoor.pairAlikeP
