/- Contracts: a polynomial's value and its degree. Contracts: a polynomial's degree, a copy of a slice, a short polynomial. -/
import Derived.Test.YtjfphobfikadlaaDoorN09
import Derived.Test.YtjfphobfikadlaaDoorN10
set_option linter.unusedVariables false
set_option linter.unusedSimpArgs false
namespace Go.Proofs.YtjfphobfikadlaaDoor
open Go.RowKit Go.Shelf Num

attribute [local go_sem] Oper.semAt_some

theorem f_AddI (p : Nat) (a b : Int) (w : World) (h1 : 1 ≤ p) (h2 : p ≤ 2147483648) (ha0 : 0 ≤ a) (ha : a < 2147483648) (hb0 : 0 ≤ b) (hb : b < 2147483648) :
    Calls Tryd.prog 50 #[.int .i64 (p : Int), .int .i64 a, .int .i64 b] w fun e w' => e = .returned (.int .i64 ((a + b) % p)) ∧ w = w' := by
  obtain ⟨x, rfl⟩ := Int.eq_ofNat_of_zero_le ha0
  obtain ⟨y, rfl⟩ := Int.eq_ofNat_of_zero_le hb0
  refine (f_Add p x y w h1 h2 (by omega) (by omega)).mono ?_
  rintro e w' ⟨rfl, rfl⟩
  exact ⟨ret_int (by rw [Int.natCast_emod, Int.natCast_add]), rfl⟩
def IntB (n : Int) (w : World) (e : Ending) (w' : World) : Prop := e = .returned (.int .i64 n) ∧ Below w.heap.size w w'
/-- An element with its place. -/
abbrev El (p : Nat) := Nat × { c : Int // 0 ≤ c ∧ c < (p : Int) }
def elF (p : Nat) (hp : 1 ≤ p) (zs : List Int) (k : Nat) : El p := (zs.length - 1 - k, if h : 0 ≤ zs.getD (zs.length - 1 - k) 0 ∧ zs.getD (zs.length - 1 - k) 0 < (p : Int) then ⟨zs.getD (zs.length - 1 - k) 0, h⟩ else ⟨0, Int.le_refl 0, by omega⟩)
theorem elF_at (p : Nat) (hp : 1 ≤ p) (zs : List Int) (hin : InF p zs) (k : Nat) (hk : k < zs.length) : (elF p hp zs k).1 = zs.length - 1 - k ∧ (elF p hp zs k).2.1 = zs.getD (zs.length - 1 - k) 0 := by
  refine ⟨rfl, ?_⟩
  unfold elF
  simp only
  rw [dif_pos (hin (zs.length - 1 - k) (by omega))]
/-- Horner's way over what has come. -/
def hor (p : Nat) (x : Int) (pre : List (El p)) : Int := pre.foldl (fun v c => (c.2.1 + v * x) % p) 0
theorem hor_snoc (p : Nat) (x : Int) (pre : List (El p)) (c : El p) : hor p x (pre ++ [c]) = (c.2.1 + hor p x pre * x) % p := by simp [hor]
theorem hor_step (p : Nat) (x : Int) (pre : List (El p)) (c : El p) : hor p x (pre ++ [c]) = ((hor p x pre * x) % p + c.2.1) % p := by
  rw [hor_snoc, Int.add_comm, Int.emod_add_emod]
theorem hor_bd (p : Nat) (x : Int) (hp : 1 ≤ p) (pre : List (El p)) : 0 ≤ hor p x pre ∧ hor p x pre < p := by
  rcases List.eq_nil_or_concat pre with rfl | ⟨l, c, rfl⟩
  · exact ⟨Int.le_refl 0, by show (0 : Int) < p; omega⟩
  · rw [List.concat_eq_append, hor_snoc]
    exact ⟨Int.emod_nonneg _ (by omega), Int.emod_lt_of_pos _ (by omega)⟩
theorem hor_dn (p : Nat) (hp : 1 ≤ p) (x : Int) (zs : List Int) (hin : InF p zs) : ∀ k, k ≤ zs.length → Cg p (hor p x (upF (elF p hp zs) k)) (ev (zs.drop (zs.length - k)) x) := by
  intro k
  induction k with
  | zero => intro _; rw [show zs.length - 0 = zs.length by omega, List.drop_length]; exact Cg.refl _ _
  | succ k ih =>
    intro hk
    rw [upF_succ, hor_snoc, (elF_at p hp zs hin k (by omega)).2, drop_get zs (zs.length - (k + 1)) (by omega), show zs.length - (k + 1) + 1 = zs.length - k by omega, show zs.length - 1 - k = zs.length - (k + 1) by omega]
    show Cg p _ (zs.getD (zs.length - (k + 1)) 0 + x * ev (zs.drop (zs.length - k)) x)
    refine Cg.of_emod ((Cg.refl p _).add ?_)
    rw [Int.mul_comm x]
    exact (ih (by omega)).mul (Cg.refl p x)
theorem hor_all (p : Nat) (x : Int) (hp : 1 ≤ p) (zs : List Int) (hin : InF p zs) : hor p x (upF (elF p hp zs) zs.length) = ev zs x % p := by
  have h1 := hor_dn p hp x zs hin zs.length (Nat.le_refl _)
  rw [Nat.sub_self, List.drop_zero] at h1
  have h2 := hor_bd p x hp (upF (elF p hp zs) zs.length)
  have h3 : hor p x (upF (elF p hp zs) zs.length) % (p : Int) = ev zs x % p := h1
  rwa [Int.emod_eq_of_lt h2.1 h2.2] at h3

set_option maxRecDepth 100000 in
set_option maxHeartbeats 4000000 in
theorem p_Eval_in (p : Nat) (x : Int) (len cap : Nat) (A : Option Addr) (zs : List Int) (w : World) (hp1 : 1 ≤ p) (h2 : p ≤ 1073741824) (hx0 : 0 ≤ x) (hx1 : x < 2147483648) (hlen : len = zs.length) (hl : len ≤ 1000000) (hin : InF p zs)
    (hc : 0 < len → ∃ b off, A = some ⟨b, off, none⟩ ∧ b < w.heap.size ∧ ∀ j, j < len → w.cell? ⟨b, off + j, none⟩ = some (.int .i64 (zs.getD j 0))) :
    CallsIn Fence.wide 3 Tryd.prog 33 #[.int .i64 (p : Int), .slice A len cap, .int .i64 x] w fun e W' => e = .returned (.int .i64 (hor p x (upF (elF p hp1 zs) len))) ∧ Below w.heap.size w W' := by
  have h1 : 1 ≤ 3 := by omega
  have hro : Fence.wide.round = none := rfl
  refine callsIn_of_wp_marks Tryd.func33 rfl trivial ?_ hro
  simp only [Tryd.ntmps33, List.size_toArray, List.length_cons, List.length_nil, Nat.reduceAdd, Nat.reduceSub, Array.replicate_succ, Array.replicate_zero, List.push_toArray, List.append_toArray, List.nil_append, List.cons_append]
  have HL := Lib.hid hlen
  clear hlen
  have c0 := Boxed.new w 3 (.int .i64 (p : Int))
  have c1 := Boxed.new (w.alloc (.cells #[.int .i64 (p : Int)] 3)) 3 (.int .i64 x)
  have c2 := Boxed.new ((w.alloc (.cells #[.int .i64 (p : Int)] 3)).alloc (.cells #[.int .i64 x] 3)) 3 (.int .i64 0)
  have c3 := Boxed.new (((w.alloc (.cells #[.int .i64 (p : Int)] 3)).alloc (.cells #[.int .i64 x] 3)).alloc (.cells #[.int .i64 0] 3)) 22 (.slice A len cap)
  simp only [World.size_alloc] at c1 c2 c3
  have hB3 : Below w.heap.size w (((w.alloc (.cells #[.int .i64 (p : Int)] 3)).alloc (.cells #[.int .i64 x] 3)).alloc (.cells #[.int .i64 0] 3)) := (((Below.refl _ w).alloc (Nat.le_refl _) _).alloc (by simp) _).alloc (by simp; omega) _
  have d0 := ((c0.alloc (.cells #[.int .i64 x] 3)).alloc (.cells #[.int .i64 0] 3)).alloc (.cells #[.slice A len cap] 22)
  have d1 := (c1.alloc (.cells #[.int .i64 0] 3)).alloc (.cells #[.slice A len cap] 22)
  have d2 := c2.alloc (.cells #[.slice A len cap] 22)
  have hB4 := hB3.alloc (by simp; omega) (.cells #[.slice A len cap] 22)
  have hsz : ((((w.alloc (.cells #[.int .i64 (p : Int)] 3)).alloc (.cells #[.int .i64 x] 3)).alloc (.cells #[.int .i64 0] 3)).alloc (.cells #[.slice A len cap] 22)).heap.size = w.heap.size + 4 := by simp
  gi_wp2
  refine ⟨trivial, ?_⟩
  refine (back_in Fence.wide 2 trivial hro _ _ _ _).mono ?_
  rintro e w' ⟨rfl, rfl⟩
  gi_wp2
  have hcs : 0 < len → ∃ b off, A = some ⟨b, off, none⟩ ∧ b < w.heap.size ∧ ∀ j, j < len → ((((w.alloc (.cells #[.int .i64 (p : Int)] 3)).alloc (.cells #[.int .i64 x] 3)).alloc (.cells #[.int .i64 0] 3)).alloc (.cells #[.slice A len cap] 22)).cell? ⟨b, off + j, none⟩ = some (.int .i64 (zs.getD j 0)) := fun h => by
    obtain ⟨b, off, e, hb, hcc⟩ := hc h
    exact ⟨b, off, e, hb, fun j hj => (hB4.cell (p := ⟨b, off + j, none⟩) hb).trans (hcc j hj)⟩
  have hfs : ∀ k, k < len → (elF p hp1 zs k).1 = len - 1 - k ∧ (elF p hp1 zs k).2.1 = zs.getD (len - 1 - k) 0 := fun k hk => by
    have := elF_at p hp1 zs hin k (by have := HL.out; omega)
    rwa [← HL.out] at this
  have hst := back_stops (α := El p) (fun c => c.1) (fun c => c.2.1) (elF p hp1 zs) Fence.wide 2 trivial hro (by omega) (w.heap.size + 1 + 1 + 1) w.heap.size len cap A zs hl HL.out hfs _ (by rw [hsz]; omega) (by rw [hsz]; omega) c3.cell hcs
  generalize ((((w.alloc (.cells #[.int .i64 (p : Int)] 3)).alloc (.cells #[.int .i64 x] 3)).alloc (.cells #[.int .i64 0] 3)).alloc (.cells #[.slice A len cap] 22)) = w4 at *
  have hmx : Tryd.prog.follows .mixedOrders = true := by kernel_rfl
  refine wpIn_rangeFunc_ownG hro h1 (gf := 71) (lb := #[.pointer (some ⟨w.heap.size + 1 + 1 + 1, 0, none⟩)]) rfl trivial (enters_of Tryd.func71 (by kernel_rfl) rfl)
    hst (fun h k => BKp.trans h k) (bkp_b (by rw [hsz]; omega) (by rw [hsz]; omega)) (Below.refl _ _) (fun _ => rfl)
    (fun pre W => (Boxed W w.heap.size 3 (.int .i64 (p : Int)) ∧ Boxed W (w.heap.size + 1) 3 (.int .i64 x) ∧ Boxed W (w.heap.size + 1 + 1) 3 (.int .i64 (hor p x pre))) ∧ Below w.heap.size w W)
    (fun _ _ _ => False)
    (OwnFrom.and (Own.from (fun s X Y row hs hg hr => ⟨boxed_own _ _ (fun _ => _) s X Y row hs.1 hg hr, boxed_own _ _ (fun _ => _) s X Y row hs.2.1 hg hr, boxed_own _ _ (fun s => .int .i64 (hor p x s)) s X Y row hs.2.2 hg hr⟩) _) (ownFrom_below (Nat.le_refl _) (by rw [hsz]; omega)))
    (fun _ _ _ _ _ hs _ _ => hs)
    ⟨⟨d0, d1, d2⟩, hB4⟩
    (fun c => { tmps := #[.int .i64 (p : Int), .slice A len cap, .int .i64 x, .pointer (some ⟨w.heap.size, 0, none⟩), undef, .pointer (some ⟨w.heap.size + 1, 0, none⟩), .int .i64 0, .pointer (some ⟨w.heap.size + 1 + 1, 0, none⟩), undef, .int .i64 c.2.1, .slice A len cap, .func (.func 71) #[] #[.pointer (some ⟨w.heap.size + 1 + 1 + 1, 0, none⟩)], .int .i64 (c.1 : Int), .int .i64 c.2.1, undef, undef, undef, undef, undef, undef, undef, undef], defers := [] }) ?assign ?body ?done ?stop
  case assign =>
    intro l c W K hK
    gi_wp2
    exact hK
  case body =>
    rintro l pre ⟨ci, cv, cv0, cv1⟩ W ⟨⟨b0, b1, b2⟩, hB⟩ _
    have hbd := hor_bd p x hp1 pre
    have hb2' := Int.emod_nonneg (hor p x pre * x) (show (p : Int) ≠ 0 by omega)
    have hb3' := Int.emod_lt_of_pos (hor p x pre * x) (show (0 : Int) < p by omega)
    have hse := hor_step p x pre (ci, ⟨cv, cv0, cv1⟩)
    generalize hor p x pre = v at *
    have HSE := Lib.hid hse
    clear hse
    dsimp only
    have k0 := b0.cell
    have k1 := b1.cell
    have k2 := b2.cell
    have f2 := b2.frozen
    gi_wp2
    refine region_round_last _ _ (fun W' => W'.cell? ⟨w.heap.size, 0, none⟩ = some (.int .i64 (p : Int)) ∧ W'.cell? ⟨w.heap.size + 1, 0, none⟩ = some (.int .i64 x) ∧ W'.cell? ⟨w.heap.size + 1 + 1, 0, none⟩ = some (.int .i64 v)) hmx (by kernel_rfl) rfl (by kernel_rfl) ⟨k0, k1, k2⟩ (fun hS => ?_)
    simp only [List.dropLast]
    refine wpAnyH_take (i := 0) (v := ?_) rfl (by kernel_rfl) (by kernel_rfl) (by kernel_rfl) (fun _ _ _ h => h) (Or.inl ⟨by rfl, ?_⟩) (by assumption) ?_
    rotate_left
    · (intro w hSw; (try dsimp only at hSw); go_simp; try (with_reducible rfl))
    try simp only [Act.put, List.setIfInBounds_toArray, List.set_cons_zero, List.set_cons_succ]
    refine wpAnyH_take (i := 1) (v := ?_) rfl (by kernel_rfl) (by kernel_rfl) (by kernel_rfl) (fun _ _ _ h => h) (Or.inl ⟨by rfl, ?_⟩) (by assumption) ?_
    rotate_left
    · (intro w hSw; (try dsimp only at hSw); go_simp; try (with_reducible rfl))
    try simp only [Act.put, List.setIfInBounds_toArray, List.set_cons_zero, List.set_cons_succ]
    refine wpAnyH_take (i := 2) (v := ?_) rfl (by kernel_rfl) (by kernel_rfl) (by kernel_rfl) (fun _ _ _ h => h) (Or.inl ⟨by rfl, ?_⟩) (by assumption) ?_
    rotate_left
    · (intro w hSw; (try dsimp only at hSw); go_simp; try (with_reducible rfl))
    try simp only [Act.put, List.setIfInBounds_toArray, List.set_cons_zero, List.set_cons_succ]
    refine wpAnyH_take (i := 3) (v := ?_) rfl (by kernel_rfl) (by kernel_rfl) (by kernel_rfl) (fun _ _ _ h => h) (Or.inl ⟨by rfl, ?_⟩) (by assumption) ?_
    rotate_left
    · (intro w hSw; (try dsimp only at hSw); go_simp; try (with_reducible rfl))
    try simp only [Act.put, List.setIfInBounds_toArray, List.set_cons_zero, List.set_cons_succ]
    refine wpAnyH_take (i := 5) (v := ?_) rfl (by kernel_rfl) (by kernel_rfl) (by kernel_rfl) (fun _ _ _ h => h) (Or.inl ⟨by rfl, ?_⟩) (by assumption) ?_
    rotate_left
    · (intro w hSw; (try dsimp only at hSw); go_simp; try (with_reducible rfl))
    try simp only [Act.put, List.setIfInBounds_toArray, List.set_cons_zero, List.set_cons_succ]
    refine wpAnyH_ready (rs := [4]) (by kernel_rfl) (by simp) ?_
    refine AllReadyH.cons rfl (fun K hK => ?_) AllReadyH.nil
    go_simp
    refine (f_MulZ p v x _ hp1 (by omega) (by omega) (by omega) hx0 hx1).mono ?_
    rintro e w' ⟨rfl, rfl⟩
    refine hK.out _ _ (hS) (fun hHeld => ?_)
    clear hK K
    try simp only [Act.put, List.setIfInBounds_toArray, List.set_cons_zero, List.set_cons_succ]
    refine wpAnyH_ready (rs := [6]) (by kernel_rfl) (by simp) ?_
    refine AllReadyH.cons rfl (fun K hK => ?_) AllReadyH.nil
    go_simp
    refine (f_AddI p _ _ _ hp1 (by omega) (by omega) (by omega) (by omega) (by omega)).mono ?_
    rintro e w' ⟨rfl, rfl⟩
    refine hK.out _ _ (hS) (fun hHeld => ?_)
    clear hK K
    try simp only [Act.put, List.setIfInBounds_toArray, List.set_cons_zero, List.set_cons_succ]
    refine wpAnyH_done (by kernel_rfl) ?_ _
    refine lastQ_step (by rfl) (by rfl) ?_
    go_simp
    unfold NoOut
    gi_wp2
    rw [← Int.emod_add_emod, ← HSE.out]
    refine ⟨((KeepsOthers.setCell W ⟨w.heap.size + 1 + 1, 0, none⟩ (.int .i64 (hor p x (pre ++ [(ci, ⟨cv, cv0, cv1⟩)])))).trans (KeepsOthers.drew _)).from _, ⟨((Below.refl w.heap.size W).setCell (p := ⟨w.heap.size + 1 + 1, 0, none⟩) (by show w.heap.size ≤ w.heap.size + 1 + 1; omega) _).drew, Below.heap_setCell W ⟨w.heap.size + 1 + 1, 0, none⟩ _ (w.heap.size + 1 + 1 + 1) (by simp)⟩, ⟨?_, ?_, ?_⟩, (hB.setCell (p := ⟨w.heap.size + 1 + 1, 0, none⟩) (by show w.heap.size ≤ w.heap.size + 1 + 1; omega) _).drew⟩
    · exact (Below.heap_setCell W ⟨w.heap.size + 1 + 1, 0, none⟩ _ w.heap.size (by simp; omega)).trans b0
    · exact (Below.heap_setCell W ⟨w.heap.size + 1 + 1, 0, none⟩ _ (w.heap.size + 1) (by simp)).trans b1
    · exact b2.set _
  case done =>
    rintro D ys W hD rfl ⟨⟨b0, b1, b2⟩, hB⟩ hK
    have k2 := b2.cell
    gi_wp2
    refine ⟨by simp, .inl ⟨_, _, rfl, run_takeDeferred hK, ?_⟩⟩
    exact ⟨_, results_tmp rfl _ _ _, rfl, hB.trans (belowK_b (w := w) (Nat.le_refl _) W D _ _ (by omega) hK rfl rfl)⟩
  case stop =>
    rintro D c pre W _ _ h _
    exact h.elim
/-- The contract: a polynomial's value. -/
theorem p_Eval (p : Nat) (x : Int) (v : Value) (zs : List Int) (S : Nat → Prop) (w : World) (hp1 : 1 ≤ p) (h2 : p ≤ 1073741824) (hx0 : 0 ≤ x) (hx1 : x < 2147483648) (hv : IntsAt w S v zs) (hS : ∀ b, S b → b < w.heap.size) (hl : zs.length ≤ 1000000) (hin : InF p zs) :
    Calls Tryd.prog 33 #[.int .i64 (p : Int), v, .int .i64 x] w (IntB (ev zs x % p) w) := by
  obtain ⟨A, n, c, rfl, hn, hnc, hcc⟩ := hv
  refine callsIn_wide.1 ((p_Eval_in p x n c A zs w hp1 h2 hx0 hx1 hn (by omega) hin (fun h => ?_)).mono ?_)
  · obtain ⟨b, off, hA, hSb, hcell⟩ := hcc h
    exact ⟨b, off, hA, hS b hSb, hcell⟩
  · rintro e w' ⟨rfl, hb⟩
    refine ⟨?_, hb⟩
    rw [hn, hor_all p x hp1 zs hin]
end Go.Proofs.YtjfphobfikadlaaDoor
namespace Go.Proofs.YtjfphobfikadlaaDoor
open Go.RowKit Go.Shelf Num

attribute [local go_sem] Oper.semAt_some

theorem degN_all : ∀ zs : List Int, (∀ j, j < zs.length → zs.getD j 0 = 0) → degN zs = 0 := by
  intro zs
  induction zs with
  | nil => intro _; rfl
  | cons c l ih =>
    intro h
    have h1 := ih fun j hj => by have := h (j + 1) (by simp; omega); simpa using this
    have h2 : c = 0 := by have := h 0 (by simp); simpa using this
    rw [degN, if_neg (by omega), if_pos h2]
theorem degN_of : ∀ (zs : List Int) (m : Nat), m < zs.length → zs.getD m 0 ≠ 0 → (∀ j, m < j → j < zs.length → zs.getD j 0 = 0) → degN zs = m + 1 := by
  intro zs
  induction zs with
  | nil => intro m h; simp at h
  | cons c l ih =>
    intro m hm h0 h1
    cases m with
    | zero =>
      have h2 := degN_all l fun j hj => by have := h1 (j + 1) (by omega) (by simp; omega); simpa using this
      rw [degN, if_neg (by omega), if_neg (by simpa using h0)]
    | succ m =>
      have h2 := ih m (by simpa using hm) (by simpa using h0) fun j hj hl => by have := h1 (j + 1) (by omega) (by simp; omega); simpa using this
      rw [degN, if_pos (by omega), h2]
def plF (zs : List Int) (k : Nat) : Nat × Int := (zs.length - 1 - k, zs.getD (zs.length - 1 - k) 0)
theorem upF_get {α : Type} (f : Nat → α) (k j : Nat) (h : j < k) : f j ∈ upF f k := by
  unfold upF; exact List.mem_map.2 ⟨j, List.mem_range.2 h, rfl⟩

set_option maxRecDepth 100000 in
set_option maxHeartbeats 4000000 in
theorem p_Degree_in (len cap : Nat) (A : Option Addr) (zs : List Int) (w : World) (hlen : len = zs.length) (hl : len ≤ 1000000)
    (hc : 0 < len → ∃ b off, A = some ⟨b, off, none⟩ ∧ b < w.heap.size ∧ ∀ j, j < len → w.cell? ⟨b, off + j, none⟩ = some (.int .i64 (zs.getD j 0))) :
    CallsIn Fence.wide 3 Tryd.prog 91 #[.slice A len cap] w fun e W' => e = .returned (.int .i64 ((degN zs : Int) - 1)) ∧ Below w.heap.size w W' := by
  have h1 : 1 ≤ 3 := by omega
  have hro : Fence.wide.round = none := rfl
  refine callsIn_of_wp_marks Tryd.func91 rfl trivial ?_ hro
  simp only [Tryd.ntmps91, List.size_toArray, List.length_cons, List.length_nil, Nat.reduceAdd, Nat.reduceSub, Array.replicate_succ, Array.replicate_zero, List.push_toArray, List.append_toArray, List.nil_append, List.cons_append]
  have HL := Lib.hid hlen
  clear hlen
  have bR := Boxed.new w 3 (.int .i64 0)
  have c3 := Boxed.new (w.alloc (.cells #[.int .i64 0] 3)) 22 (.slice A len cap)
  simp only [World.size_alloc] at c3
  have d0 := bR.alloc (.cells #[.slice A len cap] 22)
  have hB0 : Below w.heap.size w ((w.alloc (.cells #[.int .i64 0] 3)).alloc (.cells #[.slice A len cap] 22)) := ((Below.refl _ w).alloc (Nat.le_refl _) _).alloc (by simp) _
  have hsz : ((w.alloc (.cells #[.int .i64 0] 3)).alloc (.cells #[.slice A len cap] 22)).heap.size = w.heap.size + 2 := by simp
  gi_wp2
  refine ⟨trivial, ?_⟩
  refine (back_in Fence.wide 2 trivial hro _ _ _ _).mono ?_
  rintro e w' ⟨rfl, rfl⟩
  gi_wp2
  have hcs : 0 < len → ∃ b off, A = some ⟨b, off, none⟩ ∧ b < w.heap.size ∧ ∀ j, j < len → ((w.alloc (.cells #[.int .i64 0] 3)).alloc (.cells #[.slice A len cap] 22)).cell? ⟨b, off + j, none⟩ = some (.int .i64 (zs.getD j 0)) := fun h => by
    obtain ⟨b, off, e, hb, hcc⟩ := hc h
    exact ⟨b, off, e, hb, fun j hj => (hB0.cell (p := ⟨b, off + j, none⟩) hb).trans (hcc j hj)⟩
  have hfs : ∀ k, k < len → (plF zs k).1 = len - 1 - k ∧ (plF zs k).2 = zs.getD (len - 1 - k) 0 := fun k hk => by
    rw [HL.out]; exact ⟨rfl, rfl⟩
  have hst := back_stops (α := Nat × Int) (fun c => c.1) (fun c => c.2) (plF zs) Fence.wide 2 trivial hro (by omega) (w.heap.size + 1) w.heap.size len cap A zs hl HL.out hfs _ (by rw [hsz]; omega) (by rw [hsz]; omega) c3.cell hcs
  generalize ((w.alloc (.cells #[.int .i64 0] 3)).alloc (.cells #[.slice A len cap] 22)) = w4 at *
  refine wpIn_rangeFunc_ownG hro h1 (gf := 71) (lb := #[.pointer (some ⟨w.heap.size + 1, 0, none⟩)]) rfl trivial (enters_of Tryd.func71 (by kernel_rfl) rfl)
    hst (fun h k => BKp.trans h k) (bkp_b (by rw [hsz]; omega) (by rw [hsz]; omega)) (Below.refl _ _) (fun _ => rfl)
    (fun pre W => ((∀ q ∈ pre, q.2 = 0) ∧ W.cell? ⟨w.heap.size, 0, none⟩ = some (.int .i64 0) ∧ W.frozen? ⟨w.heap.size, 0, none⟩ = false) ∧ Below w.heap.size w W)
    (fun c pre W => (c = .ret ∧ ∃ ini last, pre = ini ++ [last] ∧ (∀ q ∈ ini, q.2 = 0) ∧ last.2 ≠ 0 ∧ W.cell? ⟨w.heap.size, 0, none⟩ = some (.int .i64 (last.1 : Int))) ∧ Below w.heap.size w W)
    (OwnFrom.and (Own.from (fun s A B row hs hg hr => ⟨hs.1, cell_kept hs.2.1 hg hr, (frozen_kept hs.2.1 hg hr).trans hs.2.2⟩) _) (ownFrom_below (Nat.le_refl _) (by rw [hsz]; omega)))
    (fun c => OwnFrom.and (Own.from (fun s A B row hs hg hr => by obtain ⟨hc, ini, last, e1, e2, e3, e4⟩ := hs; exact ⟨hc, ini, last, e1, e2, e3, cell_kept e4 hg hr⟩) _) (ownFrom_below (Nat.le_refl _) (by rw [hsz]; omega)))
    ⟨⟨fun q hq => (by cases hq), d0.cell, d0.frozen⟩, hB0⟩
    (fun x => { tmps := #[.slice A len cap, undef, .pointer (some ⟨w.heap.size, 0, none⟩), .int .i64 (x.1 : Int), .int .i64 x.2, .slice A len cap, .func (.func 71) #[] #[.pointer (some ⟨w.heap.size + 1, 0, none⟩)], .int .i64 (x.1 : Int), .int .i64 x.2, undef, undef, undef], defers := [] }) ?assign ?body ?done ?stop
  case assign =>
    intro l x W K hK
    gi_wp2
    exact hK
  case body =>
    rintro l pre ⟨xi, xv⟩ W ⟨⟨hp, hcr, hfr⟩, hB⟩ _
    dsimp only
    by_cases hx : xv = 0
    · have t0 : (xv != 0) = false := by rw [hx]; rfl
      have hpn : ∀ q ∈ pre ++ [(xi, xv)], q.2 = 0 := fun q hq => (List.mem_append.1 hq).elim (hp q) (fun e => by simp at e; subst e; exact hx)
      clear hx hp
      gi_wp2
      exact ⟨KeepsFrom.refl _ _, ⟨Below.refl _ _, rfl⟩, ⟨hpn, hcr, hfr⟩, hB⟩
    · have t0 : (xv != 0) = true := by simpa using hx
      gi_wp2
      exact ⟨(KeepsOthers.setCell _ _ _).from _, ⟨rfl, pre, (xi, xv), rfl, hp, hx, World.cell?_setCell_same' _ _ _ (by rw [hcr]; rfl)⟩, hB.setCell (p := ⟨w.heap.size, 0, none⟩) (Nat.le_refl _) _⟩
  case done =>
    rintro D ys W hD rfl ⟨⟨hne, hcr, hfr⟩, hB⟩ hK
    gi_wp2
    have hK' := (KeepsOthers.setCell W ⟨w.heap.size, 0, none⟩ (.int .i64 (-1))).same D _ hK rfl
    refine ⟨by simp, .inl ⟨_, _, rfl, run_takeDeferred hK', ?_⟩⟩
    have hc5 := cell_kept (World.cell?_setCell_same' W ⟨w.heap.size, 0, none⟩ (.int .i64 (-1)) (by rw [hcr]; rfl)) (grownBy_putObj' _ D (.deferred none)) (fun r e => by cases e; exact ⟨_, hK', rfl⟩)
    have hdz : degN zs = 0 := degN_all zs fun j hj => by
      have := hne (plF zs (zs.length - 1 - j)) (upF_get _ _ _ (by have := HL.out; omega))
      unfold plF at this
      rwa [show zs.length - 1 - (zs.length - 1 - j) = j by omega] at this
    refine ⟨.int .i64 (-1), ?_, by rw [hdz]; rfl, (hB.setCell (p := ⟨w.heap.size, 0, none⟩) (Nat.le_refl _) _).trans (belowK_b (w := w) (Nat.le_refl _) _ D _ _ (by omega) hK' rfl rfl)⟩
    simp [results, Tryd.f91, go_sem, hc5]
  case stop =>
    rintro D c pre W hD ⟨k, hk, rfl⟩ ⟨⟨rfl, ini, last, e1, e2, e3, hcr⟩, hB⟩ hK
    gi_wp2
    refine ⟨by simp, .inl ⟨_, _, rfl, run_takeDeferred hK, ?_⟩⟩
    have hc5 := cell_kept hcr (grownBy_putObj' _ D (.deferred none)) (fun r e => by cases e; exact ⟨_, hK, rfl⟩)
    obtain ⟨k', rfl⟩ : ∃ k', k = k' + 1 := by
      cases k with
      | zero => simp [upF] at e1
      | succ k' => exact ⟨k', rfl⟩
    rw [upF_succ] at e1
    obtain ⟨rfl, e5⟩ := List.append_inj' e1 rfl
    obtain rfl : plF zs k' = last := by simpa using e5
    have hkl : k' < zs.length := by have := HL.out; omega
    have hdz : degN zs = zs.length - 1 - k' + 1 := degN_of zs (zs.length - 1 - k') (by omega) e3 fun j hj hjl => by
      have := e2 (plF zs (zs.length - 1 - j)) (upF_get _ _ _ (by omega))
      unfold plF at this
      rwa [show zs.length - 1 - (zs.length - 1 - j) = j by omega] at this
    refine ⟨.int .i64 ((plF zs k').1 : Int), ?_, ?_, hB.trans (belowK_b (w := w) (Nat.le_refl _) W D _ _ (by omega) hK rfl rfl)⟩
    · simp [results, Tryd.f91, go_sem, hc5]
    · rw [hdz]
      show Ending.returned (.int .i64 ((zs.length - 1 - k' : Nat) : Int)) = _
      congr 2; omega
/-- The contract: the degree. -/
theorem p_Degree (v : Value) (zs : List Int) (S : Nat → Prop) (w : World) (hv : IntsAt w S v zs) (hS : ∀ b, S b → b < w.heap.size) (hl : zs.length ≤ 1000000) :
    Calls Tryd.prog 91 #[v] w (IntB ((degN zs : Int) - 1) w) := by
  obtain ⟨A, n, c, rfl, hn, hnc, hcc⟩ := hv
  refine callsIn_wide.1 (p_Degree_in n c A zs w hn (by omega) (fun h => ?_))
  obtain ⟨b, off, hA, hSb, hcell⟩ := hcc h
  exact ⟨b, off, hA, hS b hSb, hcell⟩
end Go.Proofs.YtjfphobfikadlaaDoor
