/- Contracts: slices.Clone of answers, shows and numbers; copies of terms and of conditions. Contracts: copies of a condition's terms, of a condition. -/
import Derived.Test.YtgbhaaongmlpkaaGreatDoorX19
import Derived.Test.YtgbhaaongmlpkaaGreatDoorX22
import Derived.Lib.SliceRun
set_option linter.unusedVariables false
set_option linter.unusedSimpArgs false
namespace Go.Proofs.YtgbhaaongmlpkaaGreatDoor
open Go.RowKit Num

theorem AnssAt.reads {w : World} {S : Nat → Prop} {B : Nat} {A : Option Addr} {n c : Nat} {L : List Ans} (h : AnssAt w S (.slice A n c) L) (hS : ∀ b, S b → b < B) : Reads w B 3 A n (ansC L) := by
  obtain ⟨A', n', c', hv, h2, h3, h4⟩ := h
  injection hv with e1 e2 e3
  subst e1 e2 e3
  refine ⟨by rw [ansC_len, h2], fun hn => ?_⟩
  obtain ⟨b, off, rfl, hb, hc⟩ := h4 hn
  refine ⟨_, rfl, hS b hb, fun j u hu => ?_⟩
  have hj : j < L.length * 3 := by
    rcases Nat.lt_or_ge j (L.length * 3) with h | h
    · exact h
    · rw [List.getElem?_eq_none (by rw [ansC_len]; exact h)] at hu; cases hu
  have ha : (⟨b, off, none⟩ : Addr).add j = ⟨b, off + j, none⟩ := by unfold Addr.add; split <;> simp_all
  rw [ha]
  obtain ⟨a0, a1, a2⟩ := ansC_at L (j / 3) (by omega)
  obtain ⟨c0, c1, c2⟩ := hc (j / 3) (by omega)
  rcases (show j = j / 3 * 3 ∨ j = j / 3 * 3 + 1 ∨ j = j / 3 * 3 + 2 by omega) with e | e | e
  · rw [e, a0] at hu; rw [e]; exact c0.trans hu
  · rw [e, a1] at hu; rw [e, ← Nat.add_assoc]; exact c1.trans hu
  · rw [e, a2] at hu; rw [e, ← Nat.add_assoc]; exact c2.trans hu
theorem ShwsAt.reads {w : World} {S : Nat → Prop} {B : Nat} {A : Option Addr} {n c : Nat} {L : List Shw} (h : ShwsAt w S (.slice A n c) L) (hS : ∀ b, S b → b < B) : Reads w B 2 A n (shwC L) := by
  obtain ⟨A', n', c', hv, h2, h3, h4⟩ := h
  injection hv with e1 e2 e3
  subst e1 e2 e3
  refine ⟨by rw [shwC_len, h2], fun hn => ?_⟩
  obtain ⟨b, off, rfl, hb, hc⟩ := h4 hn
  refine ⟨_, rfl, hS b hb, fun j u hu => ?_⟩
  have hj : j < L.length * 2 := by
    rcases Nat.lt_or_ge j (L.length * 2) with h | h
    · exact h
    · rw [List.getElem?_eq_none (by rw [shwC_len]; exact h)] at hu; cases hu
  have ha : (⟨b, off, none⟩ : Addr).add j = ⟨b, off + j, none⟩ := by unfold Addr.add; split <;> simp_all
  rw [ha]
  obtain ⟨a0, a1⟩ := shwC_at L (j / 2) (by omega)
  obtain ⟨c0, c1⟩ := hc (j / 2) (by omega)
  rcases (show j = j / 2 * 2 ∨ j = j / 2 * 2 + 1 by omega) with e | e
  · rw [e, a0] at hu; rw [e]; exact c0.trans hu
  · rw [e, a1] at hu; rw [e, ← Nat.add_assoc]; exact c1.trans hu
theorem ansC_one (L : List Ans) : ∀ u ∈ ansC L, u.oneCell' = true := by
  intro u hu
  obtain ⟨a, _, h⟩ := List.mem_flatMap.1 hu
  simp only [List.mem_cons, List.not_mem_nil, or_false] at h
  rcases h with rfl | rfl | rfl <;> rfl
theorem shwC_one (L : List Shw) : ∀ u ∈ shwC L, u.oneCell' = true := by
  intro u hu
  obtain ⟨a, _, h⟩ := List.mem_flatMap.1 hu
  simp only [List.mem_cons, List.not_mem_nil, or_false] at h
  rcases h with rfl | rfl <;> rfl
theorem own_base' {W : World} {B B' : Nat} {e : TypeId} {s n : Nat} {v : Value} {xs : List Value} (h : W.ownsRow B e s v n xs) (hb : B' ≤ B) : W.ownsRow B' e s v n xs := by
  refine ⟨h.1, ?_⟩
  rcases h.2 with hn | ⟨g, cap, cur, rfl, hB, rest⟩
  · exact .inl hn
  · exact .inr ⟨g, cap, cur, rfl, Nat.le_trans hb hB, rest⟩
/-- A copy: a row of the call's own, of the same cells. -/
def CpyQ (e0 : TypeId) (s n : Nat) (xs : List Value) (w : World) (e : Ending) (w' : World) : Prop := ∃ v, e = .returned v ∧ w'.ownsRow w.heap.size e0 s v n xs ∧ Below w.heap.size w w'
set_option maxRecDepth 100000 in
set_option maxHeartbeats 1000000 in
theorem s_CloneA (A : Option Addr) (n c : Nat) (L : List Ans) (S : Nat → Prop) (w : World) (hv : AnssAt w S (.slice A n c) L) (hS : ∀ b, S b → b < w.heap.size) (hl : L.length ≤ 1000000) :
    Calls Tryz.prog 41 #[.slice A n c] w (CpyQ 61 3 L.length (ansC L) w) := by
  obtain ⟨i0, hi, hz0, hz1, hz2⟩ := info_parts infoAn
  obtain ⟨A', n', c', he, hn, hnc, hc⟩ := id hv
  injection he with e1 e2 e3
  subst e1 e2 e3
  have hrd := hv.reads (B := w.heap.size) hS
  have HRD := Lib.hid hrd
  have HN := Lib.hid hn
  have hn1 : n ≤ 1000000 := by omega
  clear hv hrd hn
  have q22 := fun (W : World) => Lib.run_eql_slice_nil (P := Tryz.prog) W 30 61 A n c 0 0 Tryz.underlying30
  cases A with
  | none =>
    have hn0 : n = 0 := by
      rcases Nat.eq_zero_or_pos n with h | h
      · exact h
      · obtain ⟨b, off, hA, _⟩ := hc h; cases hA
    subst hn0
    clear hc
    go_enter Tryz.func41, Tryz.ntmps41
    go_wp2_with fail
    go_ret
    have hx : L = [] := List.eq_nil_of_length_eq_zero HN.out.symm
    subst hx
    exact ⟨_, rfl, World.ownsRow_nil _ _ _ _, Below.refl _ _⟩
  | some ad =>
    clear hc
    go_enter Tryz.func41, Tryz.ntmps41
    go_wp2_with (at_builtin; refine wpList_append_any _ rfl _ _ 30 rfl w.heap.size 61 i0 (.agg #[.string ⟨#[]⟩, .string ⟨#[]⟩, .int .i64 0]) 3 40 Tryz.underlying30 hi hz0 hz1 hz2 rfl (by decide) (.slice (some ⟨w.heap.size, 0, none⟩) 0 0) 0 [] rfl (World.ownsRow_lit w #[] 0 (Nat.le_refl _) (by simp only [maxLen]; omega) rfl) w.heap.size (some ad) n c (ansC L) rfl (HRD.out.alloc (Nat.le_refl _) _) (ansC_one L) (by simp only [maxLen]; omega) (by omega) (by simp) ?_)
    intro v' w3 hown' hgrow hloc
    go_wp2_with fail
    go_ret
    refine ⟨_, rfl, ?_, ?_⟩
    · rw [← HN.out]
      simpa using hown'
    · have hg0 : w.grownBy w3 (some w.heap.size) := ⟨hgrow.os, hgrow.tape, hgrow.output, Nat.le_trans (by simp) hgrow.size, fun i hi hn => (hgrow.block i (by simp; omega) (by simpa [Value.ownBlock] using hn)).trans (Below.heap_alloc w _ i hi)⟩
      exact (Below.refl w.heap.size w).grown hg0 (Nat.le_refl _) (fun g hg => by injection hg with hg; omega)
set_option maxRecDepth 100000 in
set_option maxHeartbeats 1000000 in
theorem s_CloneS (A : Option Addr) (n c : Nat) (L : List Shw) (S : Nat → Prop) (w : World) (hv : ShwsAt w S (.slice A n c) L) (hS : ∀ b, S b → b < w.heap.size) (hl : L.length ≤ 1000000) :
    Calls Tryz.prog 43 #[.slice A n c] w (CpyQ 65 2 L.length (shwC L) w) := by
  obtain ⟨i0, hi, hz0, hz1, hz2⟩ := info_parts infoSw
  obtain ⟨A', n', c', he, hn, hnc, hc⟩ := id hv
  injection he with e1 e2 e3
  subst e1 e2 e3
  have hrd := hv.reads (B := w.heap.size) hS
  have HRD := Lib.hid hrd
  have HN := Lib.hid hn
  have hn1 : n ≤ 1000000 := by omega
  clear hv hrd hn
  have q22 := fun (W : World) => Lib.run_eql_slice_nil (P := Tryz.prog) W 34 65 A n c 0 0 Tryz.underlying34
  cases A with
  | none =>
    have hn0 : n = 0 := by
      rcases Nat.eq_zero_or_pos n with h | h
      · exact h
      · obtain ⟨b, off, hA, _⟩ := hc h; cases hA
    subst hn0
    clear hc
    go_enter Tryz.func43, Tryz.ntmps43
    go_wp2_with fail
    go_ret
    have hx : L = [] := List.eq_nil_of_length_eq_zero HN.out.symm
    subst hx
    exact ⟨_, rfl, World.ownsRow_nil _ _ _ _, Below.refl _ _⟩
  | some ad =>
    clear hc
    go_enter Tryz.func43, Tryz.ntmps43
    go_wp2_with (at_builtin; refine wpList_append_any _ rfl _ _ 34 rfl w.heap.size 65 i0 (.agg #[.string ⟨#[]⟩, .string ⟨#[]⟩]) 2 32 Tryz.underlying34 hi hz0 hz1 hz2 rfl (by decide) (.slice (some ⟨w.heap.size, 0, none⟩) 0 0) 0 [] rfl (World.ownsRow_lit w #[] 0 (Nat.le_refl _) (by simp only [maxLen]; omega) rfl) w.heap.size (some ad) n c (shwC L) rfl (HRD.out.alloc (Nat.le_refl _) _) (shwC_one L) (by simp only [maxLen]; omega) (by omega) (by simp) ?_)
    intro v' w3 hown' hgrow hloc
    go_wp2_with fail
    go_ret
    refine ⟨_, rfl, ?_, ?_⟩
    · rw [← HN.out]
      simpa using hown'
    · have hg0 : w.grownBy w3 (some w.heap.size) := ⟨hgrow.os, hgrow.tape, hgrow.output, Nat.le_trans (by simp) hgrow.size, fun i hi hn => (hgrow.block i (by simp; omega) (by simpa [Value.ownBlock] using hn)).trans (Below.heap_alloc w _ i hi)⟩
      exact (Below.refl w.heap.size w).grown hg0 (Nat.le_refl _) (fun g hg => by injection hg with hg; omega)
set_option maxRecDepth 100000 in
set_option maxHeartbeats 1000000 in
theorem s_CloneI (A : Option Addr) (n c : Nat) (L : List Int) (S : Nat → Prop) (w : World) (hv : IntsAt w S (.slice A n c) L) (hS : ∀ b, S b → b < w.heap.size) (hl : L.length ≤ 1000000) :
    Calls Tryz.prog 76 #[.slice A n c] w (CpyQ 3 1 L.length (L.map (Value.int .i64)) w) := by
  obtain ⟨i0, hi, hz0, hz1, hz2⟩ := info_parts infoI'
  obtain ⟨A', n', c', he, hn, hnc, hc⟩ := id hv
  injection he with e1 e2 e3
  subst e1 e2 e3
  have hrd := hv.reads (B := w.heap.size) hS
  have HRD := Lib.hid hrd
  have HN := Lib.hid hn
  have hn1 : n ≤ 1000000 := by omega
  clear hv hrd hn
  have q22 := fun (W : World) => Lib.run_eql_slice_nil (P := Tryz.prog) W 22 3 A n c 0 0 Tryz.underlying22
  cases A with
  | none =>
    have hn0 : n = 0 := by
      rcases Nat.eq_zero_or_pos n with h | h
      · exact h
      · obtain ⟨b, off, hA, _⟩ := hc h; cases hA
    subst hn0
    clear hc
    go_enter Tryz.func76, Tryz.ntmps76
    go_wp2_with fail
    go_ret
    have hx : L = [] := List.eq_nil_of_length_eq_zero HN.out.symm
    subst hx
    exact ⟨_, rfl, World.ownsRow_nil _ _ _ _, Below.refl _ _⟩
  | some ad =>
    clear hc
    go_enter Tryz.func76, Tryz.ntmps76
    go_wp2_with (at_builtin; refine wpList_append_any _ rfl _ _ 22 rfl w.heap.size 3 i0 (.int .i64 0) 1 8 Tryz.underlying22 hi hz0 hz1 hz2 rfl (by decide) (.slice (some ⟨w.heap.size, 0, none⟩) 0 0) 0 [] rfl (World.ownsRow_lit w #[] 0 (Nat.le_refl _) (by simp only [maxLen]; omega) rfl) w.heap.size (some ad) n c (L.map (Value.int .i64)) rfl (HRD.out.alloc (Nat.le_refl _) _) (ints_oneCell .i64 _) (by simp only [maxLen]; omega) (by omega) (by simp) ?_)
    intro v' w3 hown' hgrow hloc
    go_wp2_with fail
    go_ret
    refine ⟨_, rfl, ?_, ?_⟩
    · rw [← HN.out]
      simpa using hown'
    · have hg0 : w.grownBy w3 (some w.heap.size) := ⟨hgrow.os, hgrow.tape, hgrow.output, Nat.le_trans (by simp) hgrow.size, fun i hi hn => (hgrow.block i (by simp; omega) (by simpa [Value.ownBlock] using hn)).trans (Below.heap_alloc w _ i hi)⟩
      exact (Below.refl w.heap.size w).grown hg0 (Nat.le_refl _) (fun g hg => by injection hg with hg; omega)
theorem OwnTs.push2 {w w2 : World} {B : Nat} {v v' u : Value} {L : List Trm} {us : Nat → Value} {t : Trm} {o : Obj} (h : OwnTs w B v L us) (hu : w.ownsRow B 3 1 u t.args.length (t.args.map (Value.int .i64))) (hap : ∀ j, j < L.length → (us j).ownBlock = none ∨ (us j).ownBlock ≠ u.ownBlock)
    (hown : w2.ownsRow B 46 6 v' (L.length + 1) (tmsC L us ++ tmCell t u)) (hg : (w.alloc o).grownBy w2 v.ownBlock) :
    OwnTs w2 B v' (L ++ [t]) (fun k => if k = L.length then u else us k) := by
  refine ⟨?_, fun k hk => ?_, fun j k hj hk hne => ?_⟩
  · rw [tmsC_snoc, List.length_append, if_pos rfl]
    have e : tmsC L (fun k => if k = L.length then u else us k) = tmsC L us := tmsC_congr L fun k hk => if_neg (by omega)
    rw [e]; exact hown
  · rw [List.length_append] at hk
    by_cases e : k = L.length
    · subst e; rw [if_pos rfl, trmAt_new]
      exact (hu.alloc o).kept hg (own_ne hu h.row (by decide))
    · have hk' : k < L.length := by simp at hk; omega
      rw [if_neg e, trmAt_old L t k hk']
      exact ((h.args k hk').alloc o).kept hg (own_ne (h.args k hk') h.row (by decide))
  · rw [List.length_append] at hj hk
    have ej : ∀ i, i < L.length + 1 → i ≠ L.length → i < L.length := fun i a b => by omega
    by_cases e : j = L.length
    · rw [if_pos e, if_neg (by omega)]
      rcases hap k (by simp at hk; omega) with a | a
      · rcases hb : u.ownBlock with _ | g
        · exact .inl rfl
        · exact .inr (by rw [a]; simp)
      · exact .inr a.symm
    · rw [if_neg e]
      by_cases e2 : k = L.length
      · rw [if_pos e2]; exact hap j (by simp at hj; omega)
      · rw [if_neg e2]; exact h.apart j k (by simp at hj; omega) (by simp at hk; omega) hne
/-- A copy of a term: its numbers lie in a new block. -/
def TrmQ (t : Trm) (w : World) (e : Ending) (w' : World) : Prop := ∃ u, e = .returned (.agg #[.int .i64 t.kind, .int .i64 t.num, .int .i64 t.yrs, .string t.field, .string t.text, u]) ∧ w'.ownsRow w.heap.size 3 1 u t.args.length (t.args.map (Value.int .i64)) ∧ Below w.heap.size w w'
set_option maxRecDepth 100000 in
set_option maxHeartbeats 1000000 in
theorem c_termG (t : Trm) (u : Value) (S : Nat → Prop) (w : World) (hu : IntsAt w S u t.args) (hS : ∀ b, S b → b < w.heap.size) (hl : t.args.length ≤ 1000000) :
    Calls Tryz.prog 58 #[.agg #[.int .i64 t.kind, .int .i64 t.num, .int .i64 t.yrs, .string t.field, .string t.text, u]] w (TrmQ t w) := by
  obtain ⟨k, n, y, f, x, ar⟩ := t
  dsimp only at hu hl ⊢
  unfold TrmQ
  dsimp only
  obtain ⟨A, m, c, rfl, -⟩ := id hu
  have hb0 : Below w.heap.size w ((w.alloc (.cells #[.int .i64 k, .int .i64 n, .int .i64 y, .string f, .string x, .slice A m c] 46)).alloc (.cells #[.int .i64 0, .int .i64 0, .int .i64 0, .string ⟨#[]⟩, .string ⟨#[]⟩, .slice none 0 0] 46)) := ((Below.refl _ _).alloc (Nat.le_refl _) _).alloc (by simp) _
  have hcl := s_CloneI A m c ar S _ (hu.keep fun b hb => hb0.block b (hS b hb)) (fun b hb => Nat.lt_of_lt_of_le (hS b hb) hb0.size) hl
  have hk0 : Blk ((w.alloc (.cells #[.int .i64 k, .int .i64 n, .int .i64 y, .string f, .string x, .slice A m c] 46)).alloc (.cells #[.int .i64 0, .int .i64 0, .int .i64 0, .string ⟨#[]⟩, .string ⟨#[]⟩, .slice none 0 0] 46)) w.heap.size 46 #[.int .i64 k, .int .i64 n, .int .i64 y, .string f, .string x, .slice A m c] := (Blk.new w _ _).alloc _
  have hk1 : Blk ((w.alloc (.cells #[.int .i64 k, .int .i64 n, .int .i64 y, .string f, .string x, .slice A m c] 46)).alloc (.cells #[.int .i64 0, .int .i64 0, .int .i64 0, .string ⟨#[]⟩, .string ⟨#[]⟩, .slice none 0 0] 46)) (w.heap.size + 1) 46 #[.int .i64 0, .int .i64 0, .int .i64 0, .string ⟨#[]⟩, .string ⟨#[]⟩, .slice none 0 0] := by
    have := Blk.new (w.alloc (.cells #[.int .i64 k, .int .i64 n, .int .i64 y, .string f, .string x, .slice A m c] 46)) 46 #[.int .i64 0, .int .i64 0, .int .i64 0, .string ⟨#[]⟩, .string ⟨#[]⟩, .slice none 0 0]
    rwa [World.size_alloc] at this
  have HB0 := Lib.hid hb0
  have HCL := Lib.hid hcl
  have HK0 := Lib.hid hk0
  have HK1 := Lib.hid hk1
  clear hb0 hcl hk0 hk1 hu hS hl
  go_enter Tryz.func58, Tryz.ntmps58
  go_wp2_with fail
  refine HCL.out.mono ?_
  rintro e w1 ⟨v, rfl, hv, hb1⟩
  have k0 := HK0.out.below' hb1 HK0.out.lt
  have k1 := HK1.out.below' hb1 HK1.out.lt
  have a0 := (k0.cell 0).trans (show _ = some (Value.int .i64 k) from rfl)
  have a1 := (k0.cell 1).trans (show _ = some (Value.int .i64 n) from rfl)
  have a2 := (k0.cell 2).trans (show _ = some (Value.int .i64 y) from rfl)
  have a3 := (k0.cell 3).trans (show _ = some (Value.string f) from rfl)
  have a4 := (k0.cell 4).trans (show _ = some (Value.string x) from rfl)
  have a5 := (k0.cell 5).trans (show _ = some (Value.slice A m c) from rfl)
  have b0 := (k1.cell 0).trans (show _ = some (Value.int .i64 0) from rfl)
  have b1 := (k1.cell 1).trans (show _ = some (Value.int .i64 0) from rfl)
  have b2 := (k1.cell 2).trans (show _ = some (Value.int .i64 0) from rfl)
  have b3 := (k1.cell 3).trans (show _ = some (Value.string ⟨#[]⟩) from rfl)
  have b4 := (k1.cell 4).trans (show _ = some (Value.string ⟨#[]⟩) from rfl)
  have b5 := (k1.cell 5).trans (show _ = some (Value.slice none 0 0) from rfl)
  have f0 := k0.frozen 5
  have g0 := k1.frozen 0
  have g1 := k1.frozen 1
  have g2 := k1.frozen 2
  have g3 := k1.frozen 3
  have g4 := k1.frozen 4
  have g5 := k1.frozen 5
  have HV := Lib.hid hv
  have HB1 := Lib.hid (HB0.out.trans (hb1.mono HB0.out.size))
  obtain ⟨A2, c2, rfl⟩ := own_slice hv
  obtain ⟨m2, hm2⟩ : ∃ m2, ar.length = m2 := ⟨_, rfl⟩
  have K1 := Lib.hid k1
  have hsz := HB0.out.size
  simp only [World.size_alloc] at hsz
  have hsz1 := hb1.size
  simp only [World.size_alloc] at hsz1
  rw [hm2] at HV ⊢
  have HM := Lib.hid hm2
  clear hb1 hv k0 k1 hm2
  go_wp2_with fail
  have kf : Blk (w1.setCell ⟨w.heap.size, 5, none⟩ (.slice A2 m2 c2)) (w.heap.size + 1) 46 #[.int .i64 0, .int .i64 0, .int .i64 0, .string ⟨#[]⟩, .string ⟨#[]⟩, .slice none 0 0] := Blk.far K1.out (by show w.heap.size + 1 ≠ w.heap.size; omega) _
  have kz := (((((kf.set_ 0 (.int .i64 k)).set_ 1 (.int .i64 n)).set_ 2 (.int .i64 y)).set_ 3 (.string f)).set_ 4 (.string x)).set_ 5 (.slice A2 m2 c2)
  refine bodyPost_ret (v := .agg #[.int .i64 k, .int .i64 n, .int .i64 y, .string f, .string x, .slice A2 m2 c2]) (by simp [results, Tryz.results58, go_sem, (kz.cell 0).trans (show _ = some (Value.int .i64 k) from rfl), (kz.cell 1).trans (show _ = some (Value.int .i64 n) from rfl), (kz.cell 2).trans (show _ = some (Value.int .i64 y) from rfl), (kz.cell 3).trans (show _ = some (Value.string f) from rfl), (kz.cell 4).trans (show _ = some (Value.string x) from rfl), (kz.cell 5).trans (show _ = some (Value.slice A2 m2 c2) from rfl)]) rfl ⟨_, rfl, ?_, ?_⟩
  all_goals
    have hc : Chg w1 (((((((w1.setCell ⟨w.heap.size, 5, none⟩ (.slice A2 m2 c2)).setCell ⟨w.heap.size + 1, 0, none⟩ (.int .i64 k)).setCell ⟨w.heap.size + 1, 1, none⟩ (.int .i64 n)).setCell ⟨w.heap.size + 1, 2, none⟩ (.int .i64 y)).setCell ⟨w.heap.size + 1, 3, none⟩ (.string f)).setCell ⟨w.heap.size + 1, 4, none⟩ (.string x)).setCell ⟨w.heap.size + 1, 5, none⟩ (.slice A2 m2 c2)) (fun q => q = w.heap.size ∨ q = w.heap.size + 1) :=
      (((((((Chg.refl w1 (fun q => q = w.heap.size ∨ q = w.heap.size + 1)).setCell ⟨w.heap.size, 5, none⟩ (fun _ => .inl rfl) _).setCell ⟨w.heap.size + 1, 0, none⟩ (fun _ => .inr rfl) _).setCell ⟨w.heap.size + 1, 1, none⟩ (fun _ => .inr rfl) _).setCell ⟨w.heap.size + 1, 2, none⟩ (fun _ => .inr rfl) _).setCell ⟨w.heap.size + 1, 3, none⟩ (fun _ => .inr rfl) _).setCell ⟨w.heap.size + 1, 4, none⟩ (fun _ => .inr rfl) _).setCell ⟨w.heap.size + 1, 5, none⟩ (fun _ => .inr rfl) _
  · have hv := HV.out
    simp only [World.size_alloc] at hv
    have := own_base' (B' := w.heap.size) (hc.own hv (fun g hg hq => by have := (hv.lt g hg).1; omega)) (by omega)
    rw [HM.out]
    exact this
  · exact HB1.out.trans (hc.below (fun i hi hq => by omega) (by omega))
end Go.Proofs.YtgbhaaongmlpkaaGreatDoor
namespace Go.Proofs.YtgbhaaongmlpkaaGreatDoor
open Go.RowKit Num

theorem below_al' (w : World) (o : Obj) : Below w.heap.size w (w.alloc o) := (Below.refl _ _).alloc (Nat.le_refl _) o
/-- A copied list of terms. -/
def TmsQ (L : List Trm) (w : World) (e : Ending) (w' : World) : Prop := ∃ v us, e = .returned v ∧ OwnTs w' w.heap.size v L us ∧ Below w.heap.size w w'
theorem OwnTs.below {w w' : World} {B : Nat} {v : Value} {L : List Trm} {us : Nat → Value} (h : OwnTs w B v L us) (hb : Below w.heap.size w w') : OwnTs w' B v L us :=
  h.chg (S := fun _ => False) ⟨hb.os, hb.tape, hb.output, hb.size, fun i hi _ => hb.block i hi⟩ (fun _ _ hf => hf) (fun _ _ _ _ hf => hf)
theorem take_snoc (L : List Trm) (k : Nat) (h : k < L.length) : L.take (k + 1) = L.take k ++ [trmAt L k] := by
  rw [List.take_succ_eq_append_getElem h]
  unfold trmAt
  rw [List.getD_eq_getElem?_getD, List.getElem?_eq_getElem h]; rfl
set_option maxRecDepth 100000 in
set_option maxHeartbeats 1000000 in
theorem c_ListTG (A : Option Addr) (n c : Nat) (L : List Trm) (S : Nat → Prop) (w : World) (h : TermsAt w S (.slice A n c) L) (hS : ∀ b, S b → b < w.heap.size) (hL : L.length ≤ 1000000) (hok : ∀ t ∈ L, t.args.length ≤ 1000000) :
    Calls Tryz.prog 57 #[.slice A n c, .func (.func 58) #[] #[]] w (TmsQ L w) := by
  obtain ⟨i0, hi, hz0, hz1, hz2⟩ := info_parts infoT
  obtain ⟨A', n', c', he, hn, hnc, hT⟩ := id h
  injection he with e1 e2 e3
  subst e1 e2 e3
  have HT := Lib.hid hT
  have HN := Lib.hid hn
  have HS := Lib.hid hS
  have HOK := Lib.hid hok
  have hn1 : n ≤ 1000000 := by omega
  clear h hT hn hS hok
  go_enter Tryz.func57, Tryz.ntmps57
  go_wp2_with fail
  go_loopw [5, 7, 10] (fun v5 v7 v10 wr => ∃ (k : Nat) (A5 : Option Addr) (c5 : Nat) (us : Nat → Value), k ≤ n ∧ v10 = .int .i64 (k : Int) ∧ v5 = .slice A5 k c5 ∧ OwnTs wr w.heap.size v5 (L.take k) us ∧ Below w.heap.size w wr) (fun _ _ v10 _ => n - (intOf v10).toNat)
  case atStart => exact ⟨0, none, 0, fun _ => undef, by omega, rfl, rfl, OwnTs.nil _ _ _, Below.refl _ _⟩
  case round =>
    obtain ⟨k, A5, c5, us, hk, rfl, rfl, ho, hb⟩ := hrel
    have HO := Lib.hid ho
    have HB := Lib.hid hb
    have hsz := hb.size
    clear ho hb
    by_cases hlt : k < n
    · obtain ⟨b, off, rfl, hbw, hc⟩ := HT.out (by omega)
      have hbw := HS.out b hbw
      have hkl : k < L.length := by have := HN.out; omega
      obtain ⟨c0, c1, c2, c3, c4, u, c5', hu⟩ := hc k hlt
      have hal := HOK.out _ (trmAt_mem hkl)
      have hsn := take_snoc L k hkl
      have htk : (L.take k).length = k := by rw [List.length_take]; omega
      have HSN := Lib.hid hsn
      have HTK := Lib.hid htk
      clear hsn htk
      obtain ⟨t, ht⟩ : ∃ t, trmAt L k = t := ⟨_, rfl⟩
      rw [ht] at c0 c1 c2 c3 c4 hu hal HSN
      have e0 := (HB.out.cell (p := ⟨b, off + k * 6, none⟩) hbw).trans c0
      have e1 := (HB.out.cell (p := ⟨b, off + k * 6 + 1, none⟩) hbw).trans c1
      have e2 := (HB.out.cell (p := ⟨b, off + k * 6 + 2, none⟩) hbw).trans c2
      have e3 := (HB.out.cell (p := ⟨b, off + k * 6 + 3, none⟩) hbw).trans c3
      have e4 := (HB.out.cell (p := ⟨b, off + k * 6 + 4, none⟩) hbw).trans c4
      have e5 := (HB.out.cell (p := ⟨b, off + k * 6 + 5, none⟩) hbw).trans c5'
      have hu' := hu.keep (w' := wr.alloc (.cells #[.int .i64 t.kind, .int .i64 t.num, .int .i64 t.yrs, .string t.field, .string t.text, u] 46)) (fun q hq => (Below.heap_alloc wr _ q (Nat.lt_of_lt_of_le (HS.out q hq) hsz)).trans (HB.out.block q (HS.out q hq)))
      have hct := c_termG t u S _ hu' (fun q hq => by have := HS.out q hq; simp; omega) hal
      obtain ⟨Au, mu, cu, rfl, -⟩ := id hu
      have HCT := Lib.hid hct
      clear c0 c1 c2 c3 c4 c5' hc ht hu hu' hct hal
      have zi : (k : Int) < (n : Int) := by omega
      go_wp2_with fail
      refine HCT.out.mono ?_
      rintro e w1 ⟨u1, rfl, hu1, hb1⟩
      have hb2 : Below w.heap.size w w1 := HB.out.trans (((Below.refl w.heap.size wr).alloc hsz _).trans (hb1.mono (by simp; omega)))
      have ho1 : OwnTs w1 w.heap.size (.slice A5 k c5) (L.take k) us := (HO.out.below (below_al' wr _)).below hb1
      have hrow := ho1.row
      rw [HTK.out] at hrow
      have hap : ∀ j, j < (L.take k).length → (us j).ownBlock = none ∨ (us j).ownBlock ≠ u1.ownBlock := fun j hj => by
        rcases hq : (us j).ownBlock with _ | g
        · exact .inl rfl
        · refine .inr fun e => ?_
          have l1 := (HO.out.args j hj).lt g hq
          have l2 := (hu1.lt g e.symm).1
          simp only [World.size_alloc] at l2
          omega
      have hu2 := own_base' (B' := w.heap.size) hu1 (by simp; omega)
      obtain ⟨A3, c3, rfl⟩ := own_slice hu1
      have HB2 := Lib.hid hb2
      have hsz2 := hb2.size
      have HO1 := Lib.hid ho1
      have HU2 := Lib.hid hu2
      have HAP := Lib.hid hap
      have HROW := Lib.hid hrow
      clear hb1 hb2 e0 e1 e2 e3 e4 e5 ho1 hu1 hu2 hap
      go_wp2_with (at_builtin; refine wpList_append_own_at _ rfl _ _ 31 rfl w.heap.size 46 i0 (.agg #[.int .i64 0, .int .i64 0, .int .i64 0, .string ⟨#[]⟩, .string ⟨#[]⟩, .slice none 0 0]) 6 80 Tryz.underlying31 hi hz0 hz1 hz2 rfl (by decide) _ _ _ rfl (hrow.alloc _) ⟨w1.heap.size, 0, none⟩ 1 1 [.int .i64 t.kind, .int .i64 t.num, .int .i64 t.yrs, .string t.field, .string t.text, .slice A3 t.args.length c3] rfl rfl (cell_six_new _ _ _ _ _ _ _ _) (by intro u hu; simp at hu; rcases hu with rfl | rfl | rfl | rfl | rfl | rfl <;> rfl) (by unfold maxLen; omega) (by omega) (by simp; omega) ?_)
      intro v2 w2 hown2 hgrow2 _ _
      have hp := OwnTs.push2 (t := t) (v' := v2) (o := .cells #[.int .i64 t.kind, .int .i64 t.num, .int .i64 t.yrs, .string t.field, .string t.text, .slice A3 t.args.length c3] 46) HO1.out HU2.out HAP.out (by rw [HTK.out]; exact hown2) hgrow2
      rw [← HSN.out] at hp
      obtain ⟨A6, c6, rfl⟩ := own_slice hown2
      have hb3 : Below w.heap.size w w2 := HB2.out.trans (((Below.refl w.heap.size w1).alloc hsz2 _).grown hgrow2 (by simp; omega) (fun g hg => (HROW.out.lt g hg).1))
      have HO2 := Lib.hid hp
      have HB3 := Lib.hid hb3
      clear hown2 hgrow2 hb3 hrow hp
      go_wp2_with fail
      go_roundw
      case measure => simp [intOf]; omega
      case rel => exact ⟨k + 1, A6, c6, _, by omega, by go_num, rfl, HO2.out, HB3.out⟩
    · have hkn : k = n := by omega
      have zi : ¬ (k : Int) < (n : Int) := by omega
      have HKN := Lib.hid hkn
      clear hkn
      go_wp2_with fail
      go_ret
      refine ⟨_, us, rfl, ?_, HB.out⟩
      have := HO.out
      have e : L.take k = L := by rw [HKN.out, HN.out, List.take_length]
      rw [e] at this
      exact this
set_option maxRecDepth 100000 in
set_option maxHeartbeats 400000 in
theorem c_ConditionG (A : Option Addr) (n c : Nat) (L : List Trm) (S : Nat → Prop) (w : World) (h : TermsAt w S (.slice A n c) L) (hS : ∀ b, S b → b < w.heap.size) (hL : L.length ≤ 1000000) (hok : ∀ t ∈ L, t.args.length ≤ 1000000) :
    Calls Tryz.prog 42 #[.agg #[.slice A n c]] w fun e w' => ∃ A' n' c', e = .returned (.agg #[.slice A' n' c']) ∧ TermsAt w' (fun b => w.heap.size ≤ b ∧ b < w'.heap.size) (.slice A' n' c') L ∧ Below w.heap.size w w' := by
  have hb0 : Below w.heap.size w ((w.alloc (.cells #[.slice A n c] 33)).alloc (.cells #[.slice none 0 0] 33)) := ((Below.refl _ _).alloc (Nat.le_refl _) _).alloc (by simp) _
  have hls := c_ListTG A n c L S _ (h.keep fun b hb => hb0.block b (hS b hb)) (fun b hb => Nat.lt_of_lt_of_le (hS b hb) hb0.size) hL hok
  have hbk : Blk ((w.alloc (.cells #[.slice A n c] 33)).alloc (.cells #[.slice none 0 0] 33)) (w.heap.size + 1) 33 #[.slice none 0 0] := by
    have := Blk.new (w.alloc (.cells #[.slice A n c] 33)) 33 #[.slice none 0 0]
    rwa [World.size_alloc] at this
  have HBK := Lib.hid hbk
  have HB0 := Lib.hid hb0
  have HLS := Lib.hid hls
  clear hbk hb0 hls h hS hok hL
  go_enter Tryz.func42, Tryz.ntmps42
  go_wp2_with fail
  refine HLS.out.mono ?_
  rintro e w1 ⟨v, us, rfl, ho, hb1⟩
  have hbk := HBK.out.below' hb1 HBK.out.lt
  have hT := ho.terms
  obtain ⟨A1, n1, c1, rfl, -⟩ := id hT
  have x0 := (hbk.cell 0).trans (show _ = some (Value.slice none 0 0) from rfl)
  have f0 := hbk.frozen 0
  have hsz1 := hb1.size
  simp only [World.size_alloc] at hsz1 hT
  have HB1 := Lib.hid (HB0.out.trans (hb1.mono HB0.out.size))
  have HT := Lib.hid hT
  clear hb1 hbk ho hT
  go_wp2_with fail
  have e1 : (w1.setCell ⟨w.heap.size + 1, 0, none⟩ (.slice A1 n1 c1)).cell? ⟨w.heap.size + 1, 0, none⟩ = some (.slice A1 n1 c1) := World.cell?_setCell_same w1 ⟨w.heap.size + 1, 0, none⟩ _ x0
  have hc : Chg w1 (w1.setCell ⟨w.heap.size + 1, 0, none⟩ (.slice A1 n1 c1)) (fun q => q = w.heap.size + 1) := (Chg.refl w1 (fun q => q = w.heap.size + 1)).setCell ⟨w.heap.size + 1, 0, none⟩ (fun _ => rfl) _
  refine bodyPost_ret (v := .agg #[.slice A1 n1 c1]) (by simp [results, Tryz.results42, go_sem, e1]) rfl ⟨_, _, _, rfl, (HT.out.keep fun b hb => hc.block b hb.2 (by omega)).mono fun b hb => ⟨by omega, by have := hc.size; omega⟩, ?_⟩
  exact HB1.out.setCell (by show w.heap.size ≤ w.heap.size + 1; omega) _
end Go.Proofs.YtgbhaaongmlpkaaGreatDoor
