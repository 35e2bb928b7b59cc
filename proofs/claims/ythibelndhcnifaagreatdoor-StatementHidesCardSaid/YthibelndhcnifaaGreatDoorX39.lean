/- Contract: awake of chapter 18. Words for memory: a list of terms of one's own whose arguments lie elsewhere (a copy of a list of terms). What a slice of ints that is read as data gives. What an argument that is a condition holds: terms. -/
import Derived.Test.YthibelndhcnifaaGreatDoorX23
import Derived.Test.YthibelndhcnifaaGreatDoorX38
import Derived.Test.YthibelndhcnifaaGreatDoorX32
import Derived.Deep.Slices
import Derived.Test.YthibelndhcnifaaGreatDoorX01
import Derived.ProofKit
import Derived.SizedLaws
import Derived.Test.YthibelndhcnifaaGreatDoorX04
import Derived.ChangeArms
import Derived.ChangeSame
set_option linter.unusedVariables false
set_option linter.unusedSimpArgs false
namespace Go.Proofs.YthibelndhcnifaaGreatDoor
open Go.RowKit Num

theorem aw_len : (stmW awS).length ≤ 16384 := of_decide_eq_true (by kernel_rfl)
theorem aw_byt : bytZ awS = 0 := by
  unfold bytZ
  rw [if_pos (show (rootF awS.cond).isSome = true from aw_root), if_pos (by decide), if_pos aw_len]
theorem aw_ok : StmOk awS := ⟨by decide, by decide, by decide, by decide, (fun k hk => absurd hk (Nat.not_lt_zero k)), by decide, (fun k hk => absurd hk (Nat.not_lt_zero k)), by decide, aw_trm⟩
theorem aw_kit : ∀ t ∈ awS.cond, KitT t := fun t ht => by
  rw [List.mem_singleton.1 ht]
  exact ⟨by decide, by decide, (fun c hc => by cases hc), (fun c hc => by cases hc), by decide⟩
theorem aw_long : 8 < (stmW awS).length := of_decide_eq_true (by kernel_rfl)
theorem aw_size : 8 < (bytS awS).size ∧ (bytS awS).size ≤ 16384 := by
  have e : bytS awS = bsOf (stmW awS) := (bytZ_parts aw_byt).2.2.2
  have h : (bytS awS).size = (stmW awS).length := by rw [e]; exact List.size_toArray ..
  exact ⟨by rw [h]; exact aw_long, by rw [h]; exact aw_len⟩
set_option maxRecDepth 100000 in
set_option maxHeartbeats 400000 in
theorem l_always (w : World) : Calls Tryz.prog 11 #[] w fun e w' => ∃ g, e = .returned (.agg #[.slice (some ⟨g, 0, none⟩) 1 1]) ∧ Blk w' g 67 #[.int .i64 8, .int .i64 0, .int .i64 0, .string ⟨#[]⟩, .string ⟨#[]⟩, .slice none 0 0] ∧ w.heap.size ≤ g ∧ Below w.heap.size w w' := by
  have hcc := (Blk.new w 30 #[.slice (some ⟨w.heap.size + 1, 0, none⟩) 1 1]).alloc (.cells #[.int .i64 8, .int .i64 0, .int .i64 0, .string ⟨#[]⟩, .string ⟨#[]⟩, .slice none 0 0] 67)
  have htc : Blk ((w.alloc (.cells #[.slice (some ⟨w.heap.size + 1, 0, none⟩) 1 1] 30)).alloc (.cells #[.int .i64 8, .int .i64 0, .int .i64 0, .string ⟨#[]⟩, .string ⟨#[]⟩, .slice none 0 0] 67)) (w.heap.size + 1) 67 #[.int .i64 8, .int .i64 0, .int .i64 0, .string ⟨#[]⟩, .string ⟨#[]⟩, .slice none 0 0] := by
    have := Blk.new (w.alloc (.cells #[.slice (some ⟨w.heap.size + 1, 0, none⟩) 1 1] 30)) 67 #[.int .i64 8, .int .i64 0, .int .i64 0, .string ⟨#[]⟩, .string ⟨#[]⟩, .slice none 0 0]
    rwa [World.size_alloc] at this
  have hB : Below w.heap.size w ((w.alloc (.cells #[.slice (some ⟨w.heap.size + 1, 0, none⟩) 1 1] 30)).alloc (.cells #[.int .i64 8, .int .i64 0, .int .i64 0, .string ⟨#[]⟩, .string ⟨#[]⟩, .slice none 0 0] 67)) := ((Below.refl _ w).alloc (Nat.le_refl _) _).alloc (by simp) _
  have HK := Lib.hid (And.intro hcc (And.intro htc hB))
  clear hcc htc hB
  go_enter Tryz.func11, Tryz.ntmps11
  go_wp2_with fail
  refine bodyPost_ret (v := .agg #[.slice (some ⟨w.heap.size + 1, 0, none⟩) 1 1]) ?_ rfl ⟨w.heap.size + 1, rfl, HK.out.2.1, by omega, HK.out.2.2⟩
  simp [results, Tryz.results11, go_sem, (HK.out.1.cell 0).trans (show _ = some (Value.slice (some ⟨w.heap.size + 1, 0, none⟩) 1 1) from rfl)]
set_option maxRecDepth 100000 in
set_option maxHeartbeats 2000000 in
theorem aw_awake (w : World) (hl : ParOk w) : Calls Tryz.prog 5 #[] w (AwkO w) := by
  have HL := Lib.hid hl
  clear hl
  go_enter Tryz.func5, Tryz.ntmps5
  go_wp2_with fail
  refine (l_always w).mono ?_
  rintro e w1 ⟨g, rfl, ht, hg, hb⟩
  have hB1 : Below w.heap.size w (w1.alloc (.cells #[.string ⟨#[120]⟩, .int .i64 0, .int .i64 5, .slice none 0 0, .slice (some ⟨g, 0, none⟩) 1 1, .slice none 0 0] 33)) := hb.alloc hb.size _
  have hT1 := ht.alloc (.cells #[.string ⟨#[120]⟩, .int .i64 0, .int .i64 5, .slice none 0 0, .slice (some ⟨g, 0, none⟩) 1 1, .slice none 0 0] 33)
  have hS1 := Blk.new w1 33 #[.string ⟨#[120]⟩, .int .i64 0, .int .i64 5, .slice none 0 0, .slice (some ⟨g, 0, none⟩) 1 1, .slice none 0 0]
  have glt := ht.lt
  obtain ⟨sb, hsb⟩ : ∃ sb, w1.heap.size = sb := ⟨_, rfl⟩
  have HB := Lib.hid hb
  clear hb ht
  go_upto_region 2 with fail
  generalize w1.alloc (.cells #[.string ⟨#[120]⟩, .int .i64 0, .int .i64 5, .slice none 0 0, .slice (some ⟨g, 0, none⟩) 1 1, .slice none 0 0] 33) = w2 at *
  rw [hsb] at hS1 glt
  try rw [hsb]
  have hat : StmAt w2 (fun q => q = g) (.slice none 0 0) (.slice (some ⟨g, 0, none⟩) 1 1) (.slice none 0 0) awS := ⟨⟨none, 0, 0, rfl, rfl, Nat.le_refl _, fun h => absurd h (Nat.lt_irrefl 0)⟩, aw_at hT1 rfl, ⟨none, 0, 0, rfl, rfl, Nat.le_refl _, fun h => absurd h (Nat.lt_irrefl 0)⟩⟩
  have hby := s_Bytes awS none (some ⟨g, 0, none⟩) none 0 0 1 1 0 0 (fun q => q = g) w2 hat (fun q hq => by subst hq; exact hT1.lt) aw_ok (HL.out.later hB1).lib
  rw [show BytE awS w2 = fun e w' => e = .returned (.tuple #[.string (bytS awS), .int .i64 0]) ∧ Below w2.heap.size w2 w' from by unfold BytE; rw [aw_byt]] at hby
  have hrb := read_back awS aw_ok aw_byt aw_kit
  have hsz := aw_size
  obtain ⟨bs, hbs⟩ : ∃ bs, bytS awS = bs := ⟨_, rfl⟩
  rw [hbs] at hby hrb hsz
  have HBY := Lib.hid hby
  have HRB := Lib.hid hrb
  have HAT := Lib.hid hat
  have HT := Lib.hid hT1
  have HS := Lib.hid hS1
  have HB2 := Lib.hid hB1
  have d0 := (hS1.cell 0).trans (show _ = some (Value.string ⟨#[120]⟩) from rfl)
  have d1 := (hS1.cell 1).trans (show _ = some (Value.int .i64 0) from rfl)
  have d2 := (hS1.cell 2).trans (show _ = some (Value.int .i64 5) from rfl)
  have d3 := (hS1.cell 3).trans (show _ = some (Value.slice none 0 0) from rfl)
  have d4 := (hS1.cell 4).trans (show _ = some (Value.slice (some ⟨g, 0, none⟩) 1 1) from rfl)
  have d5 := (hS1.cell 5).trans (show _ = some (Value.slice none 0 0) from rfl)
  have hz1 := hsz.1
  have hz2 := hsz.2
  clear hby hrb hat hT1 hS1 hB1 hbs hsz hsb HB
  go_wp2_with fail
  refine HBY.out.mono ?_
  rintro e w3 ⟨rfl, hb3⟩
  have HT3 := Lib.hid (HT.out.below' hb3 HT.out.lt)
  have HS3 := Lib.hid (HS.out.below' hb3 HS.out.lt)
  have HB3 := Lib.hid (HB2.out.trans (hb3.mono HB2.out.size))
  have hrd := s_Read bs w3 (by omega) (HL.out.later HB3.out)
  have HRD := Lib.hid hrd
  clear hb3 HBY HT HS HB2 hrd d0 d1 d2 d3 d4 d5 HAT
  go_wp2_with fail
  refine HRD.out.mono ?_
  rintro e w4 ⟨s, z, Aa, na, ca, Ac, nc, cc, As, ns, cs, rfl, hx, hb4, hor⟩
  have hsz9 : s = awS ∧ z = 0 := by
    rcases hor with ⟨_, _, h3, h4⟩ | ⟨h1, _, _⟩
    · exact ⟨h3.trans HRB.out.1, h4⟩
    · exact absurd ⟨hz2, HRB.out.2⟩ h1
  obtain ⟨rfl, rfl⟩ := hsz9
  have hT4 := HT3.out.below' hb4 HT3.out.lt
  have hS4 := HS3.out.below' hb4 HS3.out.lt
  have hB4 := HB3.out.trans (hb4.mono HB3.out.size)
  have hT5 := hT4.alloc (.cells #[.string awS.resp, .int .i64 awS.dep, .int .i64 awS.day, .slice Aa na ca, .slice Ac nc cc, .slice As ns cs] 33)
  have hS5 := hS4.alloc (.cells #[.string awS.resp, .int .i64 awS.dep, .int .i64 awS.day, .slice Aa na ca, .slice Ac nc cc, .slice As ns cs] 33)
  have hX5 := Blk.new w4 33 #[.string awS.resp, .int .i64 awS.dep, .int .i64 awS.day, .slice Aa na ca, .slice Ac nc cc, .slice As ns cs]
  have hB5 := hB4.alloc hB4.size (.cells #[.string awS.resp, .int .i64 awS.dep, .int .i64 awS.day, .slice Aa na ca, .slice Ac nc cc, .slice As ns cs] 33)
  have hx5 : StmAt (w4.alloc (.cells #[.string awS.resp, .int .i64 awS.dep, .int .i64 awS.day, .slice Aa na ca, .slice Ac nc cc, .slice As ns cs] 33)) (· < (w4.alloc (.cells #[.string awS.resp, .int .i64 awS.dep, .int .i64 awS.day, .slice Aa na ca, .slice Ac nc cc, .slice As ns cs] 33)).heap.size) (.slice Aa na ca) (.slice Ac nc cc) (.slice As ns cs) awS := (hx.keep fun q hq => Below.heap_alloc w4 _ q hq.2).mono fun q hq => by have := hq.2; rw [World.size_alloc]; omega
  have HB4 := Lib.hid hB4
  clear hx hb4 hor hT4 hS4 hB4 HRD HT3 HS3 HB3
  go_upto_region 4 with fail
  obtain ⟨xb, hxb⟩ : ∃ xb, w4.heap.size = xb := ⟨_, rfl⟩
  rw [hxb] at hX5
  try rw [hxb]
  clear hxb HB4
  generalize w4.alloc (.cells #[.string awS.resp, .int .i64 awS.dep, .int .i64 awS.day, .slice Aa na ca, .slice Ac nc cc, .slice As ns cs] 33) = w5 at *
  have hat5 : StmAt w5 (· < w5.heap.size) (.slice none 0 0) (.slice (some ⟨g, 0, none⟩) 1 1) (.slice none 0 0) awS := ⟨⟨none, 0, 0, rfl, rfl, Nat.le_refl _, fun h => absurd h (Nat.lt_irrefl 0)⟩, aw_at hT5 hT5.lt, ⟨none, 0, 0, rfl, rfl, Nat.le_refl _, fun h => absurd h (Nat.lt_irrefl 0)⟩⟩
  have hta : ∀ x ∈ awS.cond, x.args.length ≤ 1000000 := fun x hx => by rw [List.mem_singleton.1 hx]; decide
  have hsm : Calls Tryz.prog 14 #[.agg #[.string awS.resp, .int .i64 awS.dep, .int .i64 awS.day, .slice Aa na ca, .slice Ac nc cc, .slice As ns cs], .agg #[.string ⟨#[120]⟩, .int .i64 0, .int .i64 5, .slice none 0 0, .slice (some ⟨g, 0, none⟩) 1 1, .slice none 0 0]] w5 (SameB (awS = awS) w5) := s_Same awS awS _ _ _ _ _ _ w5 hx5 hat5 aw_ok aw_ok hta hta
  have x0 := (hX5.cell 0).trans (show _ = some (Value.string awS.resp) from rfl)
  have x1 := (hX5.cell 1).trans (show _ = some (Value.int .i64 awS.dep) from rfl)
  have x2 := (hX5.cell 2).trans (show _ = some (Value.int .i64 awS.day) from rfl)
  have x3 := (hX5.cell 3).trans (show _ = some (Value.slice Aa na ca) from rfl)
  have x4 := (hX5.cell 4).trans (show _ = some (Value.slice Ac nc cc) from rfl)
  have x5 := (hX5.cell 5).trans (show _ = some (Value.slice As ns cs) from rfl)
  have d0 := (hS5.cell 0).trans (show _ = some (Value.string ⟨#[120]⟩) from rfl)
  have d1 := (hS5.cell 1).trans (show _ = some (Value.int .i64 0) from rfl)
  have d2 := (hS5.cell 2).trans (show _ = some (Value.int .i64 5) from rfl)
  have d3 := (hS5.cell 3).trans (show _ = some (Value.slice none 0 0) from rfl)
  have d4 := (hS5.cell 4).trans (show _ = some (Value.slice (some ⟨g, 0, none⟩) 1 1) from rfl)
  have d5 := (hS5.cell 5).trans (show _ = some (Value.slice none 0 0) from rfl)
  have hlen : (8 : Int) < (bs.size : Int) := by omega
  have HSM := Lib.hid hsm
  have HT5 := Lib.hid hT5
  have HS5 := Lib.hid hS5
  have HB5 := Lib.hid hB5
  clear hsm hat5 hta hT5 hS5 hX5 hB5 hx5
  go_wp2_with fail
  refine HSM.out.mono ?_
  rintro e w6 ⟨b, rfl, hb, hb6⟩
  have hbt : b = true := hb.2 (by trivial)
  subst hbt
  have hS6 := HS5.out.below' hb6 HS5.out.lt
  have HT6 := Lib.hid (HT5.out.below' hb6 HT5.out.lt)
  have HB6 := Lib.hid (HB5.out.trans (hb6.mono HB5.out.size))
  have f0 := (hS6.cell 0).trans (show _ = some (Value.string ⟨#[120]⟩) from rfl)
  have f1 := (hS6.cell 1).trans (show _ = some (Value.int .i64 0) from rfl)
  have f2 := (hS6.cell 2).trans (show _ = some (Value.int .i64 5) from rfl)
  have f3 := (hS6.cell 3).trans (show _ = some (Value.slice none 0 0) from rfl)
  have f4 := (hS6.cell 4).trans (show _ = some (Value.slice (some ⟨g, 0, none⟩) 1 1) from rfl)
  have f5 := (hS6.cell 5).trans (show _ = some (Value.slice none 0 0) from rfl)
  have hck := s_Check1 g w6 HT6.out
  have HCK := Lib.hid hck
  clear hb hb6 hS6 hck HSM HT5 HS5 HB5 x0 x1 x2 x3 x4 x5 d0 d1 d2 d3 d4 d5
  go_wp2_with fail
  refine HCK.out.mono ?_
  rintro e w7 ⟨rfl, hb7⟩
  have HB7 := Lib.hid (HB6.out.trans (hb7.mono HB6.out.size))
  clear hb7 HCK
  go_wp2_with fail
  go_ret
  exact ⟨rfl, HB7.out⟩
end Go.Proofs.YthibelndhcnifaaGreatDoor
namespace Go.Proofs.YthibelndhcnifaaGreatDoor
open Go.RowKit Num

structure OwnTr (w : World) (B : Nat) (S : Nat → Prop) (v : Value) (L : List Trm) (us : Nat → Value) : Prop where
  row : w.ownsRow B 67 6 v L.length (tmsC L us)
  args : ∀ k, k < L.length → IntsAt w S (us k) (trmAt L k).args
theorem OwnTr.terms {w : World} {B : Nat} {S : Nat → Prop} {v : Value} {L : List Trm} {us : Nat → Value} (h : OwnTr w B S v L us) : TermsAt w (fun b => S b ∨ (B ≤ b ∧ b < w.heap.size)) v L := by
  rcases Nat.eq_zero_or_pos L.length with h0 | h0
  · rcases h.row.2 with ⟨rfl, _⟩ | ⟨g', cap, cur, rfl, _, _, h2, _⟩
    · exact ⟨none, 0, 0, rfl, h0.symm, by omega, fun h1 => absurd h1 (by omega)⟩
    · exact ⟨_, L.length, cap, rfl, rfl, h2, fun h1 => absurd h1 (by omega)⟩
  · obtain ⟨g, c, rfl, hg, hlt⟩ := h.row.form h0
    refine ⟨some ⟨g, 0, none⟩, L.length, c, rfl, rfl, ?_, fun _ => ⟨g, 0, rfl, .inr ⟨hg, hlt⟩, fun k hk => ?_⟩⟩
    · rcases h.row.2 with ⟨h1, _⟩ | ⟨g', cap, cur, h1, _, _, h2, _⟩
      · cases h1
      · injection h1 with _ _ h1; omega
    · have hc : ∀ i u, i < 6 → (tmCell (trmAt L k) (us k)).getD i undef = u → w.cell? ⟨g, 0 + k * 6 + i, none⟩ = some u := by
        intro i u hi hu
        rw [Nat.zero_add]
        exact own_cell h.row (k * 6 + i) u (by rw [tmsC_at L us k i hk hi, hu])
      exact ⟨hc 0 _ (by decide) rfl, hc 1 _ (by decide) rfl, hc 2 _ (by decide) rfl, hc 3 _ (by decide) rfl, hc 4 _ (by decide) rfl, us k, hc 5 _ (by decide) rfl, (h.args k hk).mono fun b hb => .inl hb⟩
theorem trmAt_set (L : List Trm) (k j : Nat) (t : Trm) (h : k < L.length) : trmAt (L.set k t) j = if j = k then t else trmAt L j := by
  unfold trmAt
  rw [List.getD_eq_getElem?_getD, List.getElem?_set]
  by_cases e : k = j
  · subst e; simp [h]
  · rw [if_neg e, if_neg (fun e' => e e'.symm), List.getD_eq_getElem?_getD]
theorem tmsC_store (L : List Trm) (us : Nat → Value) (k i : Nat) (t' : Trm) (u' v : Value) (h : k < L.length) (hi : i < 6) (e : (tmCell (trmAt L k) (us k)).set i v = tmCell t' u') :
    (tmsC L us).set (k * 6 + i) v = tmsC (L.set k t') (fun j => if j = k then u' else us j) := by
  apply List.ext_getElem?
  intro q
  have hlen : (L.set k t').length = L.length := List.length_set ..
  rw [List.getElem?_set]
  rcases Nat.lt_or_ge q (6 * L.length) with hq | hq
  · rw [tmsC_get L us q hq, tmsC_get (L.set k t') _ q (by rw [hlen]; exact hq), trmAt_set L k _ t' h, tmsC_len]
    by_cases ek : q / 6 = k
    · rw [if_pos ek]
      simp only [ek, if_true]
      rw [← e]
      obtain ⟨j, hj, hj6⟩ : ∃ j, q % 6 = j ∧ j < 6 := ⟨_, rfl, by omega⟩
      rw [hj]
      by_cases eij : k * 6 + i = q
      · have : i = j := by omega
        subst this
        rw [if_pos eij, if_pos (by omega)]
        have hlt : i < (tmCell (trmAt L k) (us k)).length := hi
        rw [List.getD_eq_getElem?_getD, List.getElem?_set_self hlt]
        rfl
      · rw [if_neg eij]
        have hne : i ≠ j := by omega
        rw [List.getD_eq_getElem?_getD, List.getD_eq_getElem?_getD, List.getElem?_set_ne hne]
    · rw [if_neg ek, if_neg ek, if_neg (by omega)]
  · rw [tmsC_none L us q hq, tmsC_none (L.set k t') _ q (by rw [hlen]; exact hq), if_neg (by omega)]
theorem OwnTr.mono {w : World} {B : Nat} {S T : Nat → Prop} {v : Value} {L : List Trm} {us : Nat → Value} (h : OwnTr w B S v L us) (hS : ∀ b, S b → T b) : OwnTr w B T v L us :=
  ⟨h.row, fun k hk => (h.args k hk).mono hS⟩
/-- One cell of one term is written. -/
theorem OwnTr.store {w : World} {B g cap : Nat} {S : Nat → Prop} {L : List Trm} {us : Nat → Value} (h : OwnTr w B S (.slice (some ⟨g, 0, none⟩) L.length cap) L us) {k i : Nat} (hk : k < L.length) (hi : i < 6) (t' : Trm) (u' v : Value)
    (e : (tmCell (trmAt L k) (us k)).set i v = tmCell t' u') (hu : IntsAt w S u' t'.args) (hS : ∀ b, S b → b < w.heap.size ∧ b ≠ g) :
    OwnTr (w.setCell ⟨g, k * 6 + i, none⟩ v) B S (.slice (some ⟨g, 0, none⟩) L.length cap) (L.set k t') (fun j => if j = k then u' else us j) ∧ w.grownBy (w.setCell ⟨g, k * 6 + i, none⟩ v) (some g) := by
  have st := World.ownsRow.stored h.row (k * 6 + i) v
  have keep : ∀ b, S b → (w.setCell ⟨g, k * 6 + i, none⟩ v).heap[b]? = w.heap[b]? := fun b hb => st.2.block b (hS b hb).1 (fun e => (hS b hb).2 (Option.some.inj e))
  refine ⟨⟨?_, fun j hj => ?_⟩, st.2⟩
  · rw [List.length_set, ← tmsC_store L us k i t' u' v hk hi e]; exact st.1
  · rw [List.length_set] at hj
    rw [trmAt_set L k j t' hk]
    by_cases ej : j = k
    · simp only [ej, if_true]; exact hu.keep keep
    · simp only [ej, if_false]; exact (h.args j hj).keep keep
end Go.Proofs.YthibelndhcnifaaGreatDoor
namespace Go.Proofs.YthibelndhcnifaaGreatDoor
open Go.ChangeShapes Go.WideShapes Go.ChangeAt Go.RowKit

theorem ints_fact {H : Type} {enc : TypeId × Value → H} {W : World} {t e : TypeId} {a : Option Addr} {n c : Nat} {d : DataW H} {p : List MemPlace} (ht : Tryz.prog.underlying t = some (.slice e)) (he : Tryz.prog.underlying e = some (.int .i64)) (hc : Tryz.prog.cellsOf e = 1)
    (h : DataW.Trod enc Tryz.prog W 0 (fun _ => true) true t (.slice a n c) d p) (hlt : ∀ x ∈ p, x.block < W.heap.size) :
    n ≤ 9223372036854775807 ∧ (n ≤ 500 → ArgL W (.slice a n c)) := by
  obtain ⟨fu, hf⟩ := h
  rcases open_ints ht he hc hf with ⟨hcs, hx⟩ | ⟨b, len', cap', zs, hcs, _, hl, hm, hz, hx, hcell, hwz⟩
  · simp [Value.cells] at hcs
    obtain ⟨rfl, rfl, rfl⟩ := hcs
    exact ⟨by omega, fun _ => ⟨none, 0, 0, fun _ => 0, rfl, by omega, fun h => absurd h (by omega)⟩⟩
  · simp [Value.cells] at hcs
    obtain ⟨rfl, rfl, rfl⟩ := hcs
    simp only [Prod.mk.injEq] at hx
    obtain ⟨rfl, rfl⟩ := hx
    simp only [if_true] at hz
    unfold maxLen at hm
    refine ⟨by omega, fun h5 => ⟨some b, n, c, fun i => zs.getD i 0, rfl, h5, fun hn => ?_⟩⟩
    obtain ⟨b0, off, spot⟩ := b
    have hspot : spot = none := by simpa [Addr.add] using World.cell?_spot (hcell 0 (by omega))
    subst hspot
    refine ⟨b0, off, rfl, hlt (.cell b0 off) (MemPlace.mem_row.2 ⟨0, by omega, by simp⟩), fun i hi => ?_⟩
    rw [← add_plain]; exact hcell i (by omega)
end Go.Proofs.YthibelndhcnifaaGreatDoor
namespace Go.Proofs.YthibelndhcnifaaGreatDoor
open Go.ChangeShapes Go.WideShapes Go.RowKit

section
variable {H : Type} {enc : TypeId × Value → H} {P : Program} {w : World} {base : Nat} {spare : Nat → Bool} {held : Bool}

/-- The shape of a term's type. -/
structure TermTy (P : Program) (te : TypeId) (f0 f1 f2 f3 f4 f5 : Field) (ei : TypeId) : Prop where
  un : P.underlying te = some (.struct #[f0, f1, f2, f3, f4, f5])
  off : f0.offset = 0 ∧ f1.offset = 1 ∧ f2.offset = 2 ∧ f3.offset = 3 ∧ f4.offset = 4 ∧ f5.offset = 5
  one : P.cellsOf f0.type = 1 ∧ P.cellsOf f1.type = 1 ∧ P.cellsOf f2.type = 1 ∧ P.cellsOf f3.type = 1 ∧ P.cellsOf f4.type = 1 ∧ P.cellsOf f5.type = 1
  six : P.cellsOf te = 6
  i0 : P.underlying f0.type = some (.int .i64)
  i1 : P.underlying f1.type = some (.int .i64)
  i2 : P.underlying f2.type = some (.int .i64)
  s3 : P.underlying f3.type = some .string
  s4 : P.underlying f4.type = some .string
  l5 : P.underlying f5.type = some (.slice ei)
  ie : P.underlying ei = some (.int .i64)
  ec : P.cellsOf ei = 1

end
end Go.Proofs.YthibelndhcnifaaGreatDoor
