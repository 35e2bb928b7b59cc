/- CorrectOne returns true at every input; condition: the bases of the primality test that the row lists start as the text lays them (tied by the card). -/
import Derived.Test.YtjfphobfikadlaaDoorRows
import Derived.Test.YtjfphobfikadlaaDoorCards
import Derived.Test.YtjfphobfikadlaaDoorTie
import Derived.Test.YtjfphobfikadlaaDoorN42
import Derived.WalkKit
import Derived.ProofKit
import Derived.OpenShut
import Derived.ShutString
import Derived.ChangeOld
import Derived.Below
import Derived.Carry
import Derived.LaidMore
import Derived.LaidLaws
import Derived.MakeChecks
import Derived.Lib.LaidTab
import Derived.SevenTiedAt
import Derived.Stop.Joined
set_option linter.unusedVariables false
set_option linter.unusedSimpArgs false
namespace Go.Proofs.YtjfphobfikadlaaDoor.correctOneP
open Go.ChangeShapes Go.WideShapes Go.ChangeAt Go.RowKit
open Go.ChangeMaps (open_string shut_string)

theorem own : ownKnob Tryd.prog.godebug = none := by kernel_rfl
theorem laidOut : laidOutB Tryd.prog = true := by kernel_rfl
/-- What the row lists. -/
def laidL : List (String × DataW Unit) := Rows.correctOneRow.laid
theorem door_met (os : Os) (args : Array Value) : laidMetH Tryd.prog laidL ((World.doorLaid Tryd.prog 4000 os).forCall (fun _ _ => 0) ⟨#[], args, []⟩).memory := by
  rw [MakeChecks.laidMetH_plain _ _ _ (by kernel_rfl)]
  exact laidMet_of_run' 8 (by kernel_rfl) (by kernel_rfl)
theorem of_laid {W : World} (h : laidMetH Tryd.prog laidL W) : BasesOk W := by
  rw [MakeChecks.laidMetH_plain _ _ _ (by kernel_rfl)] at h
  obtain ⟨ps, ⟨g0, t0, cs0, f0, p0, q0, hg0, ht0, hv0, hd0, _⟩, _⟩ := h
  have hg := (show Tryd.prog.globalNamed "reportescrow/field.bases" = some 0 by kernel_rfl)
  obtain rfl := Option.some.inj (hg.symm.trans hg0)
  obtain rfl := Option.some.inj ((show (Tryd.prog.globals[0]?).map (·.type) = some 108 by kernel_rfl).symm.trans ht0)
  have e := Lib.cells_of_tab (zs := [2, 3, 5, 7]) (k := .i64) Tryd.underlying108 Tryd.underlying3 (by kernel_rfl) (by kernel_rfl) hd0
  have e0 : cs0 = #[.int .i64 2, .int .i64 3, .int .i64 5, .int .i64 7] := by apply Array.toList_inj.1; simpa using e
  subst e0
  have c := fun i => World.var?_cell hg hv0 i
  exact ⟨by simpa using c 0, by simpa using c 1, by simpa using c 2, by simpa using c 3⟩

theorem i64_of {a : Int} (h : (Lit.int .i64 a).wf = true) : IntR a := by
  simp [Lit.wf, IntKind.wrap, go_sem] at h
  have e1 : IntKind.i64.min = -9223372036854775808 := rfl
  have e2 : IntKind.i64.max = 9223372036854775807 := rfl
  unfold IntR
  omega
theorem walkw (a0 : Option Addr) (n0 c0 : Nat) (a1 a2 a3 : Int) (a4 : Option Addr) (n4 c4 : Nat) (a5 : Option Addr) (n5 c5 : Nat) (W : World) (f0 : n0 ≤ 9223372036854775807 ∧ (n0 ≤ 500 → ArgL W (.slice a0 n0 c0))) (w1 : (Lit.int .i64 a1).wf = true) (w2 : (Lit.int .i64 a2).wf = true) (w3 : (Lit.int .i64 a3).wf = true)
    (f4 : n4 ≤ 9223372036854775807 ∧ ∃ X, IntsAt W (fun b => b < W.heap.size) (.slice a4 n4 c4) X) (f5 : n5 ≤ 9223372036854775807 ∧ ∃ X, IntsAt W (fun b => b < W.heap.size) (.slice a5 n5 c5) X) (h : BasesOk W) :
    Calls Tryd.prog 5 #[.slice a0 n0 c0, .int .i64 a1, .int .i64 a2, .int .i64 a3, .slice a4 n4 c4, .slice a5 n5 c5] W fun e w' => e = .returned (.bool true) ∧ Below W.heap.size W w' := by
  obtain ⟨h4, X, hX⟩ := f4
  obtain ⟨h5, Y, hY⟩ := f5
  exact (l_One (.slice a0 n0 c0) a1 a2 a3 a4 a5 n4 c4 n5 c5 X Y W h a0 n0 c0 rfl f0.1 f0.2 (i64_of w1) (i64_of w2) (i64_of w3) h4 h5 hX hY).mono fun e w' h => h

set_option maxRecDepth 100000 in
theorem lifted (os : Os) (started : os.Started) (H : Type) (enc : TypeId × Value → H) :
    ReturnsInHanded {} Tryd.checked os 5 .any (fun w args => (Rows.correctOneSpec.pre enc Tryd.prog Tryd.f5 [] false w args ∧ laidMetH Tryd.prog laidL w) ∧ sizedMet enc Tryd.prog Tryd.f5 (OpenSpec.ofChange Rows.correctOneSpec) false w args)
      (Rows.correctOneSpec.post enc Tryd.prog Tryd.f5 false true false false) := by
  refine returnsInHanded_of_change_and (C := Tryd.checked) (X := fun w _ => laidMetH Tryd.prog laidL w) (fun _ _ _ hh h => h.of_heap hh) own started (by kernel_rfl) Tryd.func5
    (ChangeSpec.witness_shaped (enc := enc) (C := Tryd.checked) (os := os) (X := fun w _ => laidMetH Tryd.prog laidL w) false (World.doorLaid Tryd.prog 4000 os) #[.slice none 0 0, .int .i64 0, .int .i64 0, .int .i64 0, .slice none 0 0, .slice none 0 0] 8 rfl (World.shaped_of_RefB (by kernel_rfl) (by kernel_rfl)) (by kernel_rfl) (by kernel_rfl) (by kernel_rfl) (door_met os _)) ?_
  intro W base args ds gs before hval0 hW _ _ hL hholds
  have hval : ∀ (j : Nat) t v, Tryd.f5.params[j]? = some t → args[j]? = some v → Value.okWide Tryd.prog W .any base t v := hval0
  have hW' := hW
  obtain ⟨p, q, hA0, hV, rfl, hfz, hnd⟩ := hW
  have hA : DataW.TrodAll enc Tryd.prog W 0 (fun _ => true) true Tryd.f5.params.toList args.toList ds p := hA0
  rw [Tryd.params5] at hA hval
  obtain ⟨v0, vs0, d0, ds0, p0, q0, hargs, rfl, rfl, h0, r0⟩ := trodAll_cons hA
  obtain ⟨v1, vs1, d1, ds1, p1, q1, rfl, rfl, rfl, h1, r1⟩ := trodAll_cons r0
  obtain ⟨v2, vs2, d2, ds2, p2, q2, rfl, rfl, rfl, h2, r2⟩ := trodAll_cons r1
  obtain ⟨v3, vs3, d3, ds3, p3, q3, rfl, rfl, rfl, h3, r3⟩ := trodAll_cons r2
  obtain ⟨v4, vs4, d4, ds4, p4, q4, rfl, rfl, rfl, h4, r4⟩ := trodAll_cons r3
  obtain ⟨v5, vs5, d5, ds5, p5, q5, rfl, rfl, rfl, h5, r5⟩ := trodAll_cons r4
  obtain ⟨rfl, rfl, rfl⟩ := trodAll_nil r5
  obtain rfl : args = #[v0, v1, v2, v3, v4, v5] := by cases args; simp_all
  obtain ⟨rfl, rfl⟩ := trodVars_none hV
  have hlt : ∀ x ∈ (p0 ++ (p1 ++ (p2 ++ (p3 ++ (p4 ++ (p5 ++ ([]))))))), x.block < W.heap.size := fun x hx => by simpa using hW'.lt x (by simpa using hx)
  obtain ⟨a0, n0, c0, rfl⟩ := okWide_slice Tryd.underlying22 (hval 0 22 v0 rfl rfl)
  have lt0 : ∀ x ∈ p0, x.block < W.heap.size := fun x hx => hlt x (by simp [hx])
  have back0 : ∀ (W' : World), Below W.heap.size W W' → DataW.Trod enc Tryd.prog W' 0 (fun b => decide (b < W.heap.size)) true 22 (.slice a0 n0 c0) d0 p0 :=
    fun W' hn => Below.trod laidOut (by kernel_rfl) (of_decide_eq_true (by kernel_rfl)) h0 hn lt0
  have fact0 := ints_fact Tryd.underlying22 Tryd.underlying3 (by kernel_rfl) h0 lt0
  obtain ⟨a1, rfl, rfl, rfl, w1⟩ := open_int Tryd.underlying3 (hval 1 3 v1 rfl rfl) h1
  obtain ⟨a2, rfl, rfl, rfl, w2⟩ := open_int Tryd.underlying3 (hval 2 3 v2 rfl rfl) h2
  obtain ⟨a3, rfl, rfl, rfl, w3⟩ := open_int Tryd.underlying3 (hval 3 3 v3 rfl rfl) h3
  obtain ⟨a4, n4, c4, rfl⟩ := okWide_slice Tryd.underlying22 (hval 4 22 v4 rfl rfl)
  have lt4 : ∀ x ∈ p4, x.block < W.heap.size := fun x hx => hlt x (by simp [hx])
  have back4 : ∀ (W' : World), Below W.heap.size W W' → DataW.Trod enc Tryd.prog W' 0 (fun b => decide (b < W.heap.size)) true 22 (.slice a4 n4 c4) d4 p4 :=
    fun W' hn => Below.trod laidOut (by kernel_rfl) (of_decide_eq_true (by kernel_rfl)) h4 hn lt4
  have fact4 := ints_factA Tryd.underlying22 Tryd.underlying3 (by kernel_rfl) h4 lt4
  obtain ⟨a5, n5, c5, rfl⟩ := okWide_slice Tryd.underlying22 (hval 5 22 v5 rfl rfl)
  have lt5 : ∀ x ∈ p5, x.block < W.heap.size := fun x hx => hlt x (by simp [hx])
  have back5 : ∀ (W' : World), Below W.heap.size W W' → DataW.Trod enc Tryd.prog W' 0 (fun b => decide (b < W.heap.size)) true 22 (.slice a5 n5 c5) d5 p5 :=
    fun W' hn => Below.trod laidOut (by kernel_rfl) (of_decide_eq_true (by kernel_rfl)) h5 hn lt5
  have fact5 := ints_factA Tryd.underlying22 Tryd.underlying3 (by kernel_rfl) h5 lt5
  clear hA0 hval0
  refine (walkw a0 n0 c0 a1 a2 a3 a4 n4 c4 a5 n5 c5 W fact0 w1 w2 w3 fact4 fact5 (of_laid hL)).mono fun e W' ⟨he, bel⟩ => ?_
  subst he
  exact ⟨_, rfl, _, _, _, [], _, [], hW', trodAll_mk1 (shut_bool Tryd.underlying4 _), (trodAll_cons_mk (back0 _ bel) (trodAll_cons_mk (shut_int Tryd.underlying3 w1) (trodAll_cons_mk (shut_int Tryd.underlying3 w2) (trodAll_cons_mk (shut_int Tryd.underlying3 w3) (trodAll_cons_mk (back4 _ bel) (trodAll_cons_mk (back5 _ bel) trodAll_mk0)))))), rfl, bel.frame _, fun h => by cases h⟩

theorem over : Rows.correctOneRow.holds Tryd.pinned (OpenSpec.ofChange Rows.correctOneSpec) :=
  OpenClaim.holds_of_wide 5 Tryd.f5 rfl rfl rfl rfl rfl rfl rfl ⟨rfl, rfl, rfl, rfl, rfl⟩ rfl rfl rfl rfl rfl (by kernel_rfl) Tryd.func5 (by kernel_rfl)
    (of_decide_eq_true (by kernel_rfl)) (by unfold Func.isWrapper; first | (rw [if_pos (by decide +kernel)]; kernel_rfl) | (rw [if_neg (by decide +kernel)]; exact ⟨rfl, rfl⟩))
    (fun os started H enc _ => lifted os started H enc)

/-- The tied card. -/
theorem proved : Rows.CorrectOneCardSaid :=
  Claim7.holds_tied_plain_at .later [] [.data] true (true, "ce3e81c47877d05de842b85795cdc505391dbe0ba958b514b6c0c780096cbda6") false
    over (fun _ h => by cases h) (by kernel_rfl) (fun _ h => by cases h) correctOne_row_tie rfl ⟨rfl, rfl⟩ (by kernel_rfl) rfl
    (fun f fn hf hfn => by
      obtain rfl : f = 5 := Option.some.inj ((show Tryd.prog.funcNamed Tryd.f5.name = some 5 by kernel_rfl).symm.trans hf) |>.symm
      obtain rfl : fn = Tryd.f5 := (Option.some.inj (Tryd.func5.symm.trans hfn)).symm
      exact ⟨by kernel_rfl, fun j t ht => by
        rw [Tryd.params5] at ht
        have h3 : t ∈ ([22, 3] : List TypeId) := by
          match j, ht with
          | 0, ht => simp at ht; subst ht; decide
          | 1, ht => simp at ht; subst ht; decide
          | 2, ht => simp at ht; subst ht; decide
          | 3, ht => simp at ht; subst ht; decide
          | 4, ht => simp at ht; subst ht; decide
          | 5, ht => simp at ht; subst ht; decide
          | _ + 6, ht => simp at ht
        have h4 : ([22, 3] : List TypeId).all (fun t => !Tryd.prog.wantsStandIn t) = true := by kernel_rfl
        exact (show Tryd.prog.wantsStandIn t = false by simpa using List.all_eq_true.1 h4 t h3)⟩)
    (by kernel_rfl)
end Go.Proofs.YtjfphobfikadlaaDoor.correctOneP
