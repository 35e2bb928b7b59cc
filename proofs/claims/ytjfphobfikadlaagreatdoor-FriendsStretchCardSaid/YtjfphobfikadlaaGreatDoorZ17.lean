/- Contracts: a polynomial's degree, a copy of a slice, a short polynomial. -/
import Derived.Test.YtjfphobfikadlaaGreatDoorZ16
set_option linter.unusedVariables false
set_option linter.unusedSimpArgs false
namespace Go.Proofs.YtjfphobfikadlaaGreatDoor
open Go.RowKit Go.Shelf Num

attribute [local go_sem] Oper.semAt_some

theorem degN_all : ∀ zs : List Int, (∀ j, j < zs.length → zs.getD j 0 = 0) → degN zs = 0 := by
  intro zs
  induction zs with
  | nil => intro _; rfl
  | cons c l ih =>
    intro h
    have h1 := ih fun j hj => by have := h (j + 1) (by simp; omega); simpa using this
    have h2 : c = 0 := by have := h 0 (by simp); simpa using this
    rw [degN, if_neg (by omega), if_pos h2]
theorem degN_of : ∀ (zs : List Int) (m : Nat), m < zs.length → zs.getD m 0 ≠ 0 → (∀ j, m < j → j < zs.length → zs.getD j 0 = 0) → degN zs = m + 1 := by
  intro zs
  induction zs with
  | nil => intro m h; simp at h
  | cons c l ih =>
    intro m hm h0 h1
    cases m with
    | zero =>
      have h2 := degN_all l fun j hj => by have := h1 (j + 1) (by omega) (by simp; omega); simpa using this
      rw [degN, if_neg (by omega), if_neg (by simpa using h0)]
    | succ m =>
      have h2 := ih m (by simpa using hm) (by simpa using h0) fun j hj hl => by have := h1 (j + 1) (by omega) (by simp; omega); simpa using this
      rw [degN, if_pos (by omega), h2]
def plF (zs : List Int) (k : Nat) : Nat × Int := (zs.length - 1 - k, zs.getD (zs.length - 1 - k) 0)
theorem upF_get {α : Type} (f : Nat → α) (k j : Nat) (h : j < k) : f j ∈ upF f k := by
  unfold upF; exact List.mem_map.2 ⟨j, List.mem_range.2 h, rfl⟩

set_option maxRecDepth 100000 in
set_option maxHeartbeats 4000000 in
theorem p_Degree_in (len cap : Nat) (A : Option Addr) (zs : List Int) (w : World) (hlen : len = zs.length) (hl : len ≤ 1000000)
    (hc : 0 < len → ∃ b off, A = some ⟨b, off, none⟩ ∧ b < w.heap.size ∧ ∀ j, j < len → w.cell? ⟨b, off + j, none⟩ = some (.int .i64 (zs.getD j 0))) :
    CallsIn Fence.wide 3 Tryz.prog 198 #[.slice A len cap] w fun e W' => e = .returned (.int .i64 ((degN zs : Int) - 1)) ∧ Below w.heap.size w W' := by
  have h1 : 1 ≤ 3 := by omega
  have hro : Fence.wide.round = none := rfl
  refine callsIn_of_wp_marks Tryz.func198 rfl trivial ?_ hro
  simp only [Tryz.ntmps198, List.size_toArray, List.length_cons, List.length_nil, Nat.reduceAdd, Nat.reduceSub, Array.replicate_succ, Array.replicate_zero, List.push_toArray, List.append_toArray, List.nil_append, List.cons_append]
  have HL := Lib.hid hlen
  clear hlen
  have bR := Boxed.new w 3 (.int .i64 0)
  have c3 := Boxed.new (w.alloc (.cells #[.int .i64 0] 3)) 24 (.slice A len cap)
  simp only [World.size_alloc] at c3
  have d0 := bR.alloc (.cells #[.slice A len cap] 24)
  have hB0 : Below w.heap.size w ((w.alloc (.cells #[.int .i64 0] 3)).alloc (.cells #[.slice A len cap] 24)) := ((Below.refl _ w).alloc (Nat.le_refl _) _).alloc (by simp) _
  have hsz : ((w.alloc (.cells #[.int .i64 0] 3)).alloc (.cells #[.slice A len cap] 24)).heap.size = w.heap.size + 2 := by simp
  gi_wp2
  refine ⟨trivial, ?_⟩
  refine (back_in Fence.wide 2 trivial hro _ _ _ _).mono ?_
  rintro e w' ⟨rfl, rfl⟩
  gi_wp2
  have hcs : 0 < len → ∃ b off, A = some ⟨b, off, none⟩ ∧ b < w.heap.size ∧ ∀ j, j < len → ((w.alloc (.cells #[.int .i64 0] 3)).alloc (.cells #[.slice A len cap] 24)).cell? ⟨b, off + j, none⟩ = some (.int .i64 (zs.getD j 0)) := fun h => by
    obtain ⟨b, off, e, hb, hcc⟩ := hc h
    exact ⟨b, off, e, hb, fun j hj => (hB0.cell (p := ⟨b, off + j, none⟩) hb).trans (hcc j hj)⟩
  have hfs : ∀ k, k < len → (plF zs k).1 = len - 1 - k ∧ (plF zs k).2 = zs.getD (len - 1 - k) 0 := fun k hk => by
    rw [HL.out]; exact ⟨rfl, rfl⟩
  have hst := back_stops (α := Nat × Int) (fun c => c.1) (fun c => c.2) (plF zs) Fence.wide 2 trivial hro (by omega) (w.heap.size + 1) w.heap.size len cap A zs hl HL.out hfs _ (by rw [hsz]; omega) (by rw [hsz]; omega) c3.cell hcs
  generalize ((w.alloc (.cells #[.int .i64 0] 3)).alloc (.cells #[.slice A len cap] 24)) = w4 at *
  refine wpIn_rangeFunc_ownG hro h1 (gf := 172) (lb := #[.pointer (some ⟨w.heap.size + 1, 0, none⟩)]) rfl trivial (enters_of Tryz.func172 (by kernel_rfl) rfl)
    hst (fun h k => BKp.trans h k) (bkp_b (by rw [hsz]; omega) (by rw [hsz]; omega)) (Below.refl _ _) (fun _ => rfl)
    (fun pre W => ((∀ q ∈ pre, q.2 = 0) ∧ W.cell? ⟨w.heap.size, 0, none⟩ = some (.int .i64 0) ∧ W.frozen? ⟨w.heap.size, 0, none⟩ = false) ∧ Below w.heap.size w W)
    (fun c pre W => (c = .ret ∧ ∃ ini last, pre = ini ++ [last] ∧ (∀ q ∈ ini, q.2 = 0) ∧ last.2 ≠ 0 ∧ W.cell? ⟨w.heap.size, 0, none⟩ = some (.int .i64 (last.1 : Int))) ∧ Below w.heap.size w W)
    (OwnFrom.and (Own.from (fun s A B row hs hg hr => ⟨hs.1, cell_kept hs.2.1 hg hr, (frozen_kept hs.2.1 hg hr).trans hs.2.2⟩) _) (ownFrom_below (Nat.le_refl _) (by rw [hsz]; omega)))
    (fun c => OwnFrom.and (Own.from (fun s A B row hs hg hr => by obtain ⟨hc, ini, last, e1, e2, e3, e4⟩ := hs; exact ⟨hc, ini, last, e1, e2, e3, cell_kept e4 hg hr⟩) _) (ownFrom_below (Nat.le_refl _) (by rw [hsz]; omega)))
    ⟨⟨fun q hq => (by cases hq), d0.cell, d0.frozen⟩, hB0⟩
    (fun x => { tmps := #[.slice A len cap, undef, .pointer (some ⟨w.heap.size, 0, none⟩), .int .i64 (x.1 : Int), .int .i64 x.2, .slice A len cap, .func (.func 172) #[] #[.pointer (some ⟨w.heap.size + 1, 0, none⟩)], .int .i64 (x.1 : Int), .int .i64 x.2, undef, undef, undef], defers := [] }) ?assign ?body ?done ?stop
  case assign =>
    intro l x W K hK
    gi_wp2
    exact hK
  case body =>
    rintro l pre ⟨xi, xv⟩ W ⟨⟨hp, hcr, hfr⟩, hB⟩ _
    dsimp only
    by_cases hx : xv = 0
    · have t0 : (xv != 0) = false := by rw [hx]; rfl
      have hpn : ∀ q ∈ pre ++ [(xi, xv)], q.2 = 0 := fun q hq => (List.mem_append.1 hq).elim (hp q) (fun e => by simp at e; subst e; exact hx)
      clear hx hp
      gi_wp2
      exact ⟨KeepsFrom.refl _ _, ⟨Below.refl _ _, rfl⟩, ⟨hpn, hcr, hfr⟩, hB⟩
    · have t0 : (xv != 0) = true := by simpa using hx
      gi_wp2
      exact ⟨(KeepsOthers.setCell _ _ _).from _, ⟨rfl, pre, (xi, xv), rfl, hp, hx, World.cell?_setCell_same' _ _ _ (by rw [hcr]; rfl)⟩, hB.setCell (p := ⟨w.heap.size, 0, none⟩) (Nat.le_refl _) _⟩
  case done =>
    rintro D ys W hD rfl ⟨⟨hne, hcr, hfr⟩, hB⟩ hK
    gi_wp2
    have hK' := (KeepsOthers.setCell W ⟨w.heap.size, 0, none⟩ (.int .i64 (-1))).same D _ hK rfl
    refine ⟨by simp, .inl ⟨_, _, rfl, run_takeDeferred hK', ?_⟩⟩
    have hc5 := cell_kept (World.cell?_setCell_same' W ⟨w.heap.size, 0, none⟩ (.int .i64 (-1)) (by rw [hcr]; rfl)) (grownBy_putObj' _ D (.deferred none)) (fun r e => by cases e; exact ⟨_, hK', rfl⟩)
    have hdz : degN zs = 0 := degN_all zs fun j hj => by
      have := hne (plF zs (zs.length - 1 - j)) (upF_get _ _ _ (by have := HL.out; omega))
      unfold plF at this
      rwa [show zs.length - 1 - (zs.length - 1 - j) = j by omega] at this
    refine ⟨.int .i64 (-1), ?_, by rw [hdz]; rfl, (hB.setCell (p := ⟨w.heap.size, 0, none⟩) (Nat.le_refl _) _).trans (belowK_b (w := w) (Nat.le_refl _) _ D _ _ (by omega) hK' rfl rfl)⟩
    simp [results, Tryz.f198, go_sem, hc5]
  case stop =>
    rintro D c pre W hD ⟨k, hk, rfl⟩ ⟨⟨rfl, ini, last, e1, e2, e3, hcr⟩, hB⟩ hK
    gi_wp2
    refine ⟨by simp, .inl ⟨_, _, rfl, run_takeDeferred hK, ?_⟩⟩
    have hc5 := cell_kept hcr (grownBy_putObj' _ D (.deferred none)) (fun r e => by cases e; exact ⟨_, hK, rfl⟩)
    obtain ⟨k', rfl⟩ : ∃ k', k = k' + 1 := by
      cases k with
      | zero => simp [upF] at e1
      | succ k' => exact ⟨k', rfl⟩
    rw [upF_succ] at e1
    obtain ⟨rfl, e5⟩ := List.append_inj' e1 rfl
    obtain rfl : plF zs k' = last := by simpa using e5
    have hkl : k' < zs.length := by have := HL.out; omega
    have hdz : degN zs = zs.length - 1 - k' + 1 := degN_of zs (zs.length - 1 - k') (by omega) e3 fun j hj hjl => by
      have := e2 (plF zs (zs.length - 1 - j)) (upF_get _ _ _ (by omega))
      unfold plF at this
      rwa [show zs.length - 1 - (zs.length - 1 - j) = j by omega] at this
    refine ⟨.int .i64 ((plF zs k').1 : Int), ?_, ?_, hB.trans (belowK_b (w := w) (Nat.le_refl _) W D _ _ (by omega) hK rfl rfl)⟩
    · simp [results, Tryz.f198, go_sem, hc5]
    · rw [hdz]
      show Ending.returned (.int .i64 ((zs.length - 1 - k' : Nat) : Int)) = _
      congr 2; omega
/-- The contract: the degree. -/
theorem p_Degree (v : Value) (zs : List Int) (S : Nat → Prop) (w : World) (hv : IntsAt w S v zs) (hS : ∀ b, S b → b < w.heap.size) (hl : zs.length ≤ 1000000) :
    Calls Tryz.prog 198 #[v] w (IntB ((degN zs : Int) - 1) w) := by
  obtain ⟨A, n, c, rfl, hn, hnc, hcc⟩ := hv
  refine callsIn_wide.1 (p_Degree_in n c A zs w hn (by omega) (fun h => ?_))
  obtain ⟨b, off, hA, hSb, hcell⟩ := hcc h
  exact ⟨b, off, hA, hS b hSb, hcell⟩
end Go.Proofs.YtjfphobfikadlaaGreatDoor
