/- Contracts: copies.List of statements; order.Batches. -/
import Derived.Test.YthfmmememdlekaaDoorOrChk
import Derived.Test.YthfmmememdlekaaDoorCoReg
set_option linter.unusedVariables false
set_option linter.unusedSimpArgs false
namespace Go.Proofs.YthfmmememdlekaaDoor
open Go.RowKit Go.Shelf Num

attribute [local go_sem] Oper.semAt_some

theorem below_al (w : World) (o : Obj) : Below w.heap.size w (w.alloc o) := (Below.refl _ _).alloc (Nat.le_refl _) o
/-- A statement with neither answers nor shows, and its day. -/
def StmAt (w : World) (b off : Nat) (day : Int) : Prop := ∃ (r : ByteArray) (dep : Int) (A : Option Addr) (n c : Nat), w.cell? ⟨b, off, none⟩ = some (.string r) ∧ w.cell? ⟨b, off + 1, none⟩ = some (.int .i64 dep) ∧ w.cell? ⟨b, off + 2, none⟩ = some (.int .i64 day) ∧ w.cell? ⟨b, off + 3, none⟩ = some (.slice none 0 0) ∧ w.cell? ⟨b, off + 4, none⟩ = some (.slice A n c) ∧ w.cell? ⟨b, off + 5, none⟩ = some (.slice none 0 0) ∧ TermsN w A n ∧ n ≤ 1000
theorem StmAt.below {w w' : World} {b off : Nat} {day : Int} (h : StmAt w b off day) (hb : Below w.heap.size w w') (hlt : b < w.heap.size) : StmAt w' b off day := by
  obtain ⟨r, dep, A, n, c, c0, c1, c2, c3, c4, c5, hN, hn⟩ := h
  exact ⟨r, dep, A, n, c, (hb.cell (p := ⟨b, off, none⟩) hlt).trans c0, (hb.cell (p := ⟨b, off + 1, none⟩) hlt).trans c1, (hb.cell (p := ⟨b, off + 2, none⟩) hlt).trans c2, (hb.cell (p := ⟨b, off + 3, none⟩) hlt).trans c3, (hb.cell (p := ⟨b, off + 4, none⟩) hlt).trans c4, (hb.cell (p := ⟨b, off + 5, none⟩) hlt).trans c5, hN.later hb, hn⟩
def LstE (m : Nat) (ds : Nat → Int) (w : World) (e : Ending) (w' : World) : Prop := ∃ v xs, e = .returned v ∧ w'.ownsRow w.heap.size 44 6 v m xs ∧ (∀ i, i < m → xs[i * 6 + 2]? = some (.int .i64 (ds i))) ∧ Below w.heap.size w w'
set_option maxRecDepth 100000 in
set_option maxHeartbeats 1000000 in
theorem c_ListS (b off m cc : Nat) (ds : Nat → Int) (w : World) (hb : b < w.heap.size) (hm : m ≤ 256) (h : ∀ i, i < m → StmAt w b (off + i * 6) (ds i)) : Calls Tryd.prog 31 #[.slice (some ⟨b, off, none⟩) m cc, .func (.func 32) #[] #[]] w (LstE m ds w) := by
  obtain ⟨i0, hi, hz0, hz1, hz2⟩ := info_parts infoSt
  have HT := Lib.hid h
  clear h
  go_enter Tryd.func31, Tryd.ntmps31
  go_wp2_with fail
  go_loopw [5, 7, 10] (fun v5 v7 v10 wr => ∃ (k : Nat) (A5 : Option Addr) (c5 : Nat) (xs : List Value), k ≤ m ∧ v10 = .int .i64 (k : Int) ∧ v5 = .slice A5 k c5 ∧ wr.ownsRow w.heap.size 44 6 v5 k xs ∧ (∀ i, i < k → xs[i * 6 + 2]? = some (.int .i64 (ds i))) ∧ Below w.heap.size w wr) (fun _ _ v10 _ => m - (intOf v10).toNat)
  case atStart => exact ⟨0, none, 0, [], by omega, rfl, rfl, World.ownsRow_nil _ _ _ _, (fun i hi => absurd hi (by omega)), Below.refl _ _⟩
  case round =>
    obtain ⟨k, A5, c5, xs, hk, rfl, rfl, ho, hx, hbl⟩ := hrel
    have HO := Lib.hid ho
    have HB := Lib.hid hbl
    have HX := Lib.hid hx
    have hsz := hbl.size
    clear ho hbl hx
    by_cases hlt : k < m
    · obtain ⟨r, dep, A, n, c, e0, e1, e2, e3, e4, e5, hN, hn⟩ := (HT.out k hlt).below HB.out hb
      have zi : (k : Int) < (m : Int) := by omega
      have HN := Lib.hid (hN.later (below_al wr (.cells #[.string r, .int .i64 dep, .int .i64 (ds k), .slice none 0 0, .slice A n c, .slice none 0 0] 44)))
      clear hN
      go_wp2_with fail
      refine (c_Statement r dep (ds k) A n c _ HN.out hn).mono ?_
      rintro e w1 ⟨A', n', ca, he, hb1⟩
      unfold stmV at he
      subst he
      have hb2 : Below w.heap.size w w1 := HB.out.trans (((Below.refl w.heap.size wr).alloc hsz _).trans (hb1.mono (by simp; omega)))
      have ho1 := (HO.out.alloc (.cells #[.string r, .int .i64 dep, .int .i64 (ds k), .slice none 0 0, .slice A n c, .slice none 0 0] 44)).kept (only_of_below hb1 none) (by cases (Value.slice A5 k c5).ownBlock <;> simp)
      have HB2 := Lib.hid hb2
      have hsz2 := hb2.size
      have HO1 := Lib.hid ho1
      clear hb1 hb2 e0 e1 e2 e3 e4 e5
      go_wp2_with (at_builtin; refine wpList_append_own_at _ rfl _ _ 40 rfl w.heap.size 44 i0 (.agg #[.string ⟨#[]⟩, .int .i64 0, .int .i64 0, .slice none 0 0, .slice none 0 0, .slice none 0 0]) 6 104 Tryd.underlying40 hi hz0 hz1 hz2 rfl (by decide) _ _ _ rfl (ho1.alloc _) ⟨w1.heap.size, 0, none⟩ 1 1 [.string r, .int .i64 dep, .int .i64 (ds k), .slice none 0 0, .slice A' n' ca, .slice none 0 0] rfl rfl (cell_six_new _ _ _ _ _ _ _ _) (by intro u hu; simp at hu; rcases hu with rfl | rfl | rfl | rfl | rfl | rfl <;> rfl) (by unfold maxLen; omega) (by omega) (by simp; omega) ?_)
      intro v2 w2 hown2 hgrow2 _ _
      obtain ⟨A6, c6, rfl⟩ := own_slice hown2
      have hb3 : Below w.heap.size w w2 := HB2.out.trans (((Below.refl w.heap.size w1).alloc hsz2 _).grown hgrow2 (by simp; omega) (fun g hg => (HO1.out.lt g hg).1))
      have hxs : xs.length = k * 6 := HO1.out.1
      have hx2 : ∀ i, i < k + 1 → (xs ++ [.string r, .int .i64 dep, .int .i64 (ds k), .slice none 0 0, .slice A' n' ca, .slice none 0 0])[i * 6 + 2]? = some (.int .i64 (ds i)) := by
        intro i hi
        by_cases e : i < k
        · rw [List.getElem?_append_left (by omega)]; exact HX.out i e
        · obtain rfl : i = k := by omega
          rw [List.getElem?_append_right (by omega), hxs, show i * 6 + 2 - i * 6 = 2 by omega]; rfl
      have HX2 := Lib.hid hx2
      have HO2 := Lib.hid hown2
      have HB3 := Lib.hid hb3
      clear hown2 hgrow2 hb3 ho1 hx2 hxs
      go_wp2_with fail
      go_roundw
      case measure => simp [intOf]; omega
      case rel => exact ⟨k + 1, A6, c6, _, by omega, by go_num, rfl, HO2.out, HX2.out, HB3.out⟩
    · have hkm : k = m := by omega
      have zi : ¬ (k : Int) < (m : Int) := by omega
      have HKM := Lib.hid hkm
      clear hkm
      go_wp2_with fail
      go_ret
      refine ⟨_, xs, rfl, ?_, fun i hi => HX.out i (by rw [HKM.out]; exact hi), HB.out⟩
      have := HO.out
      rw [← HKM.out]; exact this
theorem upN_get {k q : Nat} (h : k < q) : (upN q).getD k 0 = k := by
  unfold upN; rw [List.getD_eq_getElem?_getD, List.getElem?_range h]; rfl
theorem infoL : (Tryd.prog.info? 40).map (fun i => (i.zero, i.size, i.bytes)) = some (some (.slice none 0 0), 1, 24) := by kernel_rfl
theorem own_from {X Y : World} {row : Option Nat} {B n₀ : Nat} {e : TypeId} {s n : Nat} {v : Value} {xs : List Value} (h : X.ownsRow n₀ e s v n xs) (hg : X.grownBy Y row) (hr : ∀ r, row = some r → B ≤ r ∧ ∃ o : Obj, X.heap[r]? = some o ∧ o.isCells = false) : Y.ownsRow n₀ e s v n xs := by
  refine h.kept hg ?_
  rcases h.2 with ⟨rfl, _⟩ | ⟨g, cap, cur, rfl, _, hgg, _⟩
  · exact .inl rfl
  · refine .inr fun e2 => ?_
    obtain ⟨_, o, ho, hc⟩ := hr g e2.symm
    rw [hgg] at ho
    injection ho with ho
    subst ho
    cases hc
theorem own_base {W : World} {B B' : Nat} {e : TypeId} {s n : Nat} {v : Value} {xs : List Value} (h : W.ownsRow B e s v n xs) (hb : B' ≤ B) : W.ownsRow B' e s v n xs := by
  refine ⟨h.1, ?_⟩
  rcases h.2 with h2 | ⟨g, cap, cur, a, b, rest⟩
  · exact .inl h2
  · exact .inr ⟨g, cap, cur, a, Nat.le_trans hb b, rest⟩
theorem grown_trans {a b c : World} {row : Option Nat} (h : a.grownBy b row) (k : b.grownBy c row) : a.grownBy c row :=
  ⟨k.os.trans h.os, k.tape.trans h.tape, k.output.trans h.output, Nat.le_trans h.size k.size, fun i hi hn => (k.block i (Nat.lt_of_lt_of_le hi h.size) hn).trans (h.block i hi hn)⟩
theorem keeps_grown {X Y : World} {row : Option Nat} (hg : X.grownBy Y row) (hr : ∀ r, row = some r → ∃ cs t fz, X.heap[r]? = some (.cells cs t fz)) : KeepsOthers X Y := by
  refine ⟨hg.size, fun k o hk ho => ?_⟩
  refine (hg.block k (Array.getElem?_eq_some_iff.1 hk).1 (fun e => ?_)).trans hk
  obtain ⟨cs, t, fz, hc⟩ := hr k e.symm
  rw [hk] at hc
  injection hc with hc
  subst hc
  cases ho
theorem own_block {W : World} {B : Nat} {e : TypeId} {s n : Nat} {v : Value} {xs : List Value} (h : W.ownsRow B e s v n xs) : ∀ r, v.ownBlock = some r → ∃ cs t fz, W.heap[r]? = some (.cells cs t fz) := by
  intro r hr
  rcases h.2 with ⟨rfl, _⟩ | ⟨g, cap, cur, rfl, _, hg, _⟩
  · cases hr
  · cases hr; exact ⟨_, _, _, hg⟩
/-- What has been laid behind some parts: the list of the copies, in a block of its own, and each copy. -/
def BI (n₀ B6 len z : Nat) (ds : Nat → Int) (pre : List Nat) (W : World) : Prop := ∃ (v : Value) (outs : Nat → Value) (xs : Nat → List Value), Boxed W B6 45 v ∧ W.ownsRow n₀ 40 1 v pre.length ((List.range pre.length).map outs) ∧ ∀ k, k < pre.length → W.ownsRow n₀ 44 6 (outs k) (chM len z (pre.getD k 0)) (xs k) ∧ ∀ i, i < chM len z (pre.getD k 0) → (xs k)[i * 6 + 2]? = some (.int .i64 (ds (pre.getD k 0 * z + i)))
theorem BI.from (n₀ B6 len z : Nat) (ds : Nat → Int) (B : Nat) : OwnFrom B (BI n₀ B6 len z ds) := by
  intro s X Y row hs hg hr
  obtain ⟨v, outs, xs, h1, h2, h3⟩ := hs
  refine ⟨v, outs, xs, h1.kept hg (fun e => ?_), own_from h2 hg hr, fun k hk => ⟨own_from (h3 k hk).1 hg hr, (h3 k hk).2⟩⟩
  obtain ⟨_, o, ho, hc⟩ := hr B6 e.symm
  rw [show X.heap[B6]? = _ from h1] at ho
  injection ho with ho
  subst ho
  cases hc
def BatE (len z : Nat) (ds : Nat → Int) (w : World) (e : Ending) (w' : World) : Prop := ∃ (v : Value) (outs : Nat → Value) (xs : Nat → List Value), e = .returned (.tuple #[v, .int .i64 0]) ∧ w'.ownsRow w.heap.size 40 1 v (chQ len z) ((List.range (chQ len z)).map outs) ∧ (∀ k, k < chQ len z → w'.ownsRow w.heap.size 44 6 (outs k) (chM len z k) (xs k) ∧ ∀ i, i < chM len z k → (xs k)[i * 6 + 2]? = some (.int .i64 (ds (k * z + i)))) ∧ Below w.heap.size w w'
set_option maxRecDepth 100000 in
set_option maxHeartbeats 4000000 in
theorem o_Batches_in (A : Option Addr) (b off len cap z : Nat) (ds : Nat → Int) (w : World) (hz : 1 ≤ z) (hz2 : z ≤ 256) (hlen : len ≤ 256) (hlc : len ≤ cap) (hA : 0 < len → A = some ⟨b, off, none⟩) (hb : b < w.heap.size) (hst : ∀ i, i < len → StmAt w b (off + i * 6) (ds i)) :
    CallsIn Fence.wide 3 Tryd.prog 13 #[.slice A len cap, .int .i64 (z : Int)] w (BatE len z ds w) := by
  have h1 : 1 ≤ 3 := by omega
  have hro : Fence.wide.round = none := rfl
  refine callsIn_of_wp_marks Tryd.func13 rfl trivial ?_ hro
  simp only [Tryd.ntmps13, List.size_toArray, List.length_cons, List.length_nil, Nat.reduceAdd, Nat.reduceSub, Array.replicate_succ, Array.replicate_zero, List.push_toArray, List.append_toArray, List.nil_append, List.cons_append]
  have zl : ¬ (256 : Int) < (len : Int) := by omega
  have HST := Lib.hid hst
  have HA := Lib.hid hA
  clear hst hA
  gi_wp2
  refine ⟨trivial, ?_⟩
  refine (callsIn_wide.2 (o_InT _ _ _ _ (by omega))).mono ?_
  rintro e w1 ⟨rfl, rfl⟩
  gi_wp2
  refine ⟨trivial, ?_⟩
  refine (callsIn_wide.2 (s_Chunk A len cap z _ hz)).mono ?_
  rintro e w' ⟨rfl, rfl⟩
  have c0 := Boxed.new w 45 (.slice none 0 0)
  have c1 := Boxed.new (w.alloc (.cells #[.slice none 0 0] 45)) 40 (.slice A len cap)
  have c2 := Boxed.new ((w.alloc (.cells #[.slice none 0 0] 45)).alloc (.cells #[.slice A len cap] 40)) 3 (.int .i64 (z : Int))
  simp only [World.size_alloc] at c1 c2
  have d0 := (c0.alloc (.cells #[.slice A len cap] 40)).alloc (.cells #[.int .i64 (z : Int)] 3)
  have d1 := c1.alloc (.cells #[.int .i64 (z : Int)] 3)
  have hB3 : Below w.heap.size w (((w.alloc (.cells #[.slice none 0 0] 45)).alloc (.cells #[.slice A len cap] 40)).alloc (.cells #[.int .i64 (z : Int)] 3)) := (((Below.refl _ w).alloc (Nat.le_refl _) _).alloc (by simp) _).alloc (by simp; omega) _
  have hsz : (((w.alloc (.cells #[.slice none 0 0] 45)).alloc (.cells #[.slice A len cap] 40)).alloc (.cells #[.int .i64 (z : Int)] 3)).heap.size = w.heap.size + 3 := by simp
  gi_wp2
  have hst2 : ∀ W, Below w.heap.size w W → ∀ i, i < len → StmAt W b (off + i * 6) (ds i) := fun W hW i hi => (HST.out i hi).below hW hb
  have hst3 := chunk_stops (w.heap.size + 1) (w.heap.size + 1 + 1) w.heap.size len cap z b off hz hz2 hlen hlc _ (by rw [hsz]; omega) (by rw [hsz]; omega) (by rw [hsz]; omega) A HA.out d1.cell c2.cell
  generalize (((w.alloc (.cells #[.slice none 0 0] 45)).alloc (.cells #[.slice A len cap] 40)).alloc (.cells #[.int .i64 (z : Int)] 3)) = w4 at *
  have hmx : Tryd.prog.follows .mixedOrders = true := by kernel_rfl
  have hq : chQ len z ≤ 256 := by
    unfold chQ
    exact Nat.le_trans (Nat.div_le_div_left hz (by omega)) (by rw [Nat.div_one]; omega) |> fun h => by
      have h2 : (len + z - 1) / z ≤ len := by
        rcases Nat.eq_zero_or_pos len with h0 | h0
        · subst h0; rw [Nat.div_eq_of_lt (by omega)]; omega
        · exact Nat.div_le_of_le_mul (by have := Nat.mul_le_mul_left len hz; have h5 : z * len = len + (z - 1) * len := by rw [Nat.sub_mul, Nat.one_mul]; have := Nat.mul_le_mul_right len hz; omega
                                         have h6 := Nat.mul_le_mul_left (z - 1) h0; omega)
      omega
  refine wpIn_rangeFunc_ownG hro h1 (gf := 47) (lb := #[.pointer (some ⟨w.heap.size + 1, 0, none⟩), .pointer (some ⟨w.heap.size + 1 + 1, 0, none⟩)]) rfl trivial (enters_of Tryd.func47 (by kernel_rfl) rfl)
    hst3 (fun h k => BKc.trans h k) (bkc_b (by rw [hsz]; omega) (by rw [hsz]; omega) (by rw [hsz]; omega)) (Below.refl _ _) (fun _ => rfl)
    (fun pre W => BI (w.heap.size + 3) w.heap.size len z ds pre W ∧ Below w.heap.size w W ∧ w.heap.size + 3 ≤ W.heap.size)
    (fun _ _ _ => False)
    (OwnFrom.and (BI.from _ _ _ _ _ _) (OwnFrom.and (ownFrom_below (Nat.le_refl _) (by rw [hsz]; omega)) (fun _ _ _ _ hs hg _ => Nat.le_trans hs hg.size)))
    (fun _ _ _ _ _ hs _ _ => hs)
    ⟨⟨.slice none 0 0, fun _ => undef, fun _ => [], d0, World.ownsRow_nil _ _ _ _, fun k hk => absurd hk (by simp)⟩, hB3, by rw [hsz]; exact Nat.le_refl _⟩
    (fun x => { tmps := #[.slice A len cap, .int .i64 (z : Int), undef, undef, .slice none 0 0, .int .i64 0, .pointer (some ⟨w.heap.size, 0, none⟩), (.slice (some ⟨b, off + x * z * 6, none⟩) (chM len z x) (chM len z x)), .bool false, .int .i64 (z : Int), .bool true, .bool false, .bool (decide ((256 : Int) < (len : Int))), .slice A len cap, .int .i64 (len : Int), .bool (decide ((256 : Int) < (len : Int))), .slice A len cap, .int .i64 (z : Int), .func (.func 47) #[] #[.pointer (some ⟨w.heap.size + 1, 0, none⟩), .pointer (some ⟨w.heap.size + 1 + 1, 0, none⟩)], (.slice (some ⟨b, off + x * z * 6, none⟩) (chM len z x) (chM len z x)), undef, undef, undef, undef, undef, undef], defers := [] }) ?assign ?body ?done ?stop
  case assign =>
    intro l c W K hK
    gi_wp2
    exact hK
  case body =>
    rintro l pre x W ⟨hI, hB, hn1⟩ hpl
    obtain ⟨i0, hi, hy0, hy1, hy2⟩ := info_parts infoL
    obtain ⟨v, outs, xs, b6, ho, hc⟩ := hI
    obtain ⟨Av, cv, rfl⟩ := own_slice ho
    have hsW := hB.size
    have stx : ∀ i, i < chM len z x → StmAt W b (off + x * z * 6 + i * 6) (ds (x * z + i)) := by
      intro i hi
      have h := hst2 W hB (x * z + i) (by unfold chM at hi; omega)
      rw [show off + (x * z + i) * 6 = off + x * z * 6 + i * 6 by rw [Nat.add_mul]; omega] at h
      exact h
    have hmx2 : chM len z x ≤ 256 := by unfold chM; omega
    have k0 := b6.cell
    have f0 := b6.frozen
    have HO := Lib.hid ho
    have HC := Lib.hid hc
    have HB6 := Lib.hid b6
    have HST2 := Lib.hid stx
    clear ho hc stx
    gi_wp2
    refine region_round_last _ _ (fun W' => W'.cell? ⟨w.heap.size, 0, none⟩ = some (.slice Av pre.length cv) ∧ Hid (W.grownBy W' (Value.slice Av pre.length cv).ownBlock)) hmx (by kernel_rfl) rfl (by kernel_rfl) ⟨k0, Lib.hid (only_drew (World.grownBy.refl W _))⟩ (fun hS => ?_)
    simp only [List.dropLast]
    refine wpAnyH_take (i := 0) (v := ?_) rfl (by kernel_rfl) (by kernel_rfl) (by kernel_rfl) (fun _ _ _ h => h) (Or.inl ⟨by rfl, ?_⟩) (by assumption) ?_
    rotate_left
    · (intro w hSw; (try dsimp only at hSw); go_split_ands; go_simp; try (with_reducible rfl))
    try simp only [Act.put, List.setIfInBounds_toArray, List.set_cons_zero, List.set_cons_succ]
    refine wpAnyH_take (i := 1) (v := ?_) rfl (by kernel_rfl) (by kernel_rfl) (by kernel_rfl) (fun _ _ _ h => h) (Or.inl ⟨by rfl, ?_⟩) (by assumption) ?_
    rotate_left
    · (intro w hSw; (try dsimp only at hSw); go_split_ands; go_simp; try (with_reducible rfl))
    try simp only [Act.put, List.setIfInBounds_toArray, List.set_cons_zero, List.set_cons_succ]
    refine wpAnyH_ready (rs := [2]) (by kernel_rfl) (by simp) ?_
    refine AllReadyH.cons rfl (fun K hK => ?_) AllReadyH.nil
    go_simp
    refine (c_ListS b (off + x * z * 6) (chM len z x) (chM len z x) (fun i => ds (x * z + i)) W.drew (by show b < W.heap.size; omega) hmx2 (fun i hi => HST2.out i hi)).mono ?_
    rintro e wk ⟨cx, xsx, rfl, hox, hxx, hbk⟩
    have hbk' : Below W.heap.size W wk := ((Below.refl W.heap.size W).drew).trans hbk
    obtain ⟨Ax, cax, rfl⟩ := own_slice hox
    have hgk : W.grownBy wk (Value.slice Av pre.length cv).ownBlock := only_of_below hbk' _
    have k1 : wk.cell? ⟨w.heap.size, 0, none⟩ = some (.slice Av pre.length cv) := (hbk'.cell (p := ⟨w.heap.size, 0, none⟩) (by show w.heap.size < _; omega)).trans k0
    have HGK := Lib.hid hgk
    have hox2 : wk.ownsRow (w.heap.size + 3) 44 6 (.slice Ax (chM len z x) cax) (chM len z x) xsx := own_base hox (by show w.heap.size + 3 ≤ W.heap.size; omega)
    have HOX := Lib.hid hox2
    have HXX := Lib.hid hxx
    have HBK := Lib.hid hbk'
    have hok := HO.out.kept (only_of_below hbk' none) (by cases (Value.slice Av pre.length cv).ownBlock <;> simp)
    have HOK := Lib.hid hok
    have hsk := hbk'.size
    clear hox hox2 hxx hbk hbk' hgk hok
    refine hK.out _ _ (⟨k1, HGK⟩) (fun hHeld => ?_)
    clear hK K
    try simp only [Act.put, List.setIfInBounds_toArray, List.set_cons_zero, List.set_cons_succ]
    refine wpAnyH_ready (rs := [3]) (by kernel_rfl) (by simp) ?_
    refine AllReadyH.cons rfl (fun K hK => ?_) AllReadyH.nil
    go_simp
    refine hK.out _ _ (⟨(World.cell?_alloc_lt wk _ ⟨w.heap.size, 0, none⟩ (by show w.heap.size < _; omega)).trans k1, Lib.hid (only_alloc HGK.out _)⟩) (fun hHeld => ?_)
    clear hK K
    try simp only [Act.put, List.setIfInBounds_toArray, List.set_cons_zero, List.set_cons_succ]
    refine wpAnyH_ready (rs := [4]) (by kernel_rfl) (by simp) ?_
    refine AllReadyH.cons rfl (fun K hK => ?_) AllReadyH.nil
    refine step_append_lies _ (by rfl) _ _ _ (by rfl) (w.heap.size + 3) 40 i0 _ 1 24 Tryd.underlying45 hi hy0 hy1 hy2 rfl (by omega) _ pre.length _ (by rfl) (HOK.out.alloc _) ⟨wk.heap.size, 0, none⟩ 1 1 [.slice Ax (chM len z x) cax] (by rfl) (by rfl) (cell_one_new _ _ _) (by intro u hu; rw [List.mem_singleton.1 hu]; rfl) (by omega) (by simp only [maxLen]; omega) (by omega) (by simp; omega) (wk.heap.size + 1) (by simp) ?_
    intro gg cap5 w5 hown5 hgrow5 hat5 hlt5
    have hne6 : some w.heap.size ≠ (Value.slice Av pre.length cv).ownBlock := fun e => by have := (HOK.out.lt _ e.symm).1; omega
    have hg5 : wk.grownBy w5 (Value.slice Av pre.length cv).ownBlock := grown_trans (only_alloc (World.grownBy.refl wk _) _) hgrow5
    have hgW : W.grownBy w5 (Value.slice Av pre.length cv).ownBlock := grown_trans HGK.out hg5
    have k5 : w5.cell? ⟨w.heap.size, 0, none⟩ = some (.slice Av pre.length cv) := hg5.cell (a := ⟨w.heap.size, 0, none⟩) k1 hne6
    have b65 : Boxed w5 w.heap.size 45 (.slice Av pre.length cv) := HB6.out.kept hgW hne6
    have HG5 := Lib.hid hg5
    have HGW := Lib.hid hgW
    have HO5 := Lib.hid hown5
    have HB65 := Lib.hid b65
    have f5 := b65.frozen
    clear hown5 hgrow5 hat5 hg5 hgW b65
    refine hK.out _ _ (⟨k5, HGW⟩) (fun hHeld => ?_)
    clear hK K
    try simp only [Act.put, List.setIfInBounds_toArray, List.set_cons_zero, List.set_cons_succ]
    refine wpAnyH_done (by kernel_rfl) ?_ _
    refine lastQ_step (by rfl) (by rfl) ?_
    go_simp
    unfold NoOut
    gi_wp2
    have hKO : KeepsOthers W (w5.setCell ⟨w.heap.size, 0, none⟩ (.slice (some ⟨gg, 0, none⟩) (pre.length + 1) cap5)) := (keeps_grown HGW.out (own_block HO.out)).trans (KeepsOthers.setCell w5 ⟨w.heap.size, 0, none⟩ (.slice (some ⟨gg, 0, none⟩) (pre.length + 1) cap5))
    have hrow : ∀ r, (Value.slice Av pre.length cv).ownBlock = some r → w.heap.size + 3 ≤ r := fun r hr => (HO.out.lt r hr).1
    have hBW : Below w.heap.size W w5 := (Below.refl w.heap.size W).grown HGW.out hsW (fun r hr => by have := hrow r hr; omega)
    have hset : ∀ k, k ≠ w.heap.size → (w5.setCell ⟨w.heap.size, 0, none⟩ (.slice (some ⟨gg, 0, none⟩) (pre.length + 1) cap5)).heap[k]? = w5.heap[k]? := fun k hk => Below.heap_setCell w5 ⟨w.heap.size, 0, none⟩ _ k hk
    have hgrS : w5.grownBy (w5.setCell ⟨w.heap.size, 0, none⟩ (.slice (some ⟨gg, 0, none⟩) (pre.length + 1) cap5)) (some w.heap.size) := grown_setCell w5 ⟨w.heap.size, 0, none⟩ _
    have hownS : ∀ {e : TypeId} {s n : Nat} {u : Value} {us : List Value}, w5.ownsRow (w.heap.size + 3) e s u n us → (w5.setCell ⟨w.heap.size, 0, none⟩ (.slice (some ⟨gg, 0, none⟩) (pre.length + 1) cap5)).ownsRow (w.heap.size + 3) e s u n us := fun h => h.kept hgrS (by
      rcases hq : (Value.ownBlock _ : Option Nat) with _ | r
      · exact .inl rfl
      · exact .inr (by have := (h.lt r hq).1; intro e; injection e with e; omega))
    refine ⟨hKO.from _, ⟨hBW.setCell (p := ⟨w.heap.size, 0, none⟩) (Nat.le_refl _) _, ?_, ?_⟩, ⟨(.slice (some ⟨gg, 0, none⟩) (pre.length + 1) cap5), (fun j => if j = pre.length then .slice Ax (chM len z x) cax else outs j), (fun j => if j = pre.length then xsx else xs j), HB65.out.set _, ?_, ?_⟩, hB.trans (hBW.setCell (p := ⟨w.heap.size, 0, none⟩) (Nat.le_refl _) _), ?_⟩
    · rw [hset _ (by omega)]; exact HGW.out.block _ (by omega) (fun e => by have := hrow _ e.symm; omega)
    · rw [hset _ (by omega)]; exact HGW.out.block _ (by omega) (fun e => by have := hrow _ e.symm; omega)
    · have h := hownS HO5.out
      have e : (List.range (pre ++ [x]).length).map (fun j => if j = pre.length then Value.slice Ax (chM len z x) cax else outs j) = (List.range pre.length).map outs ++ [.slice Ax (chM len z x) cax] := by
        rw [List.length_append, List.length_cons, List.length_nil, List.range_succ, List.map_append]
        congr 1
        · apply List.map_congr_left
          intro j hj
          have := List.mem_range.1 hj
          rw [if_neg (by omega)]
        · simp
      rw [e, List.length_append]
      exact h
    · intro k hk
      rw [List.length_append, List.length_cons, List.length_nil] at hk
      by_cases ek : k = pre.length
      · subst ek
        have eg : (pre ++ [x]).getD pre.length 0 = x := by rw [List.getD_eq_getElem?_getD, List.getElem?_append_right (Nat.le_refl _)]; simp
        rw [eg]
        dsimp only
        rw [if_pos rfl, if_pos rfl]
        exact ⟨hownS (HOX.out.kept HG5.out (own_ne HOX.out HOK.out (by decide))), HXX.out⟩
      · have hkl : k < pre.length := by omega
        have eg : (pre ++ [x]).getD k 0 = pre.getD k 0 := by rw [List.getD_eq_getElem?_getD, List.getElem?_append_left hkl, List.getD_eq_getElem?_getD]
        rw [eg]
        dsimp only
        rw [if_neg ek, if_neg ek]
        obtain ⟨h1, h2⟩ := HC.out k hkl
        exact ⟨hownS (h1.kept HGW.out (own_ne h1 HO.out (by decide))), h2⟩
    · have := HGW.out.size
      show _ ≤ (w5.setCell ⟨w.heap.size, 0, none⟩ (.slice (some ⟨gg, 0, none⟩) (pre.length + 1) cap5)).heap.size
      have e : (w5.setCell ⟨w.heap.size, 0, none⟩ (.slice (some ⟨gg, 0, none⟩) (pre.length + 1) cap5)).heap.size = w5.heap.size := by simp [World.setCell]
      rw [e]; omega
  case done =>
    rintro D ys W hD rfl ⟨hI, hB, hn1⟩ hK
    obtain ⟨v, outs, xs, b6, ho, hc⟩ := hI
    rw [upN_length] at ho hc
    obtain ⟨Av, cv, rfl⟩ := own_slice ho
    have k6 := b6.cell
    have HO := Lib.hid ho
    have HC := Lib.hid hc
    clear ho hc
    gi_wp2
    refine ⟨by simp, .inl ⟨_, _, rfl, run_takeDeferred hK, ?_⟩⟩
    have hput : ∀ {e : TypeId} {s n : Nat} {u : Value} {us : List Value}, W.ownsRow (w.heap.size + 3) e s u n us → (W.putObj D (.deferred none)).ownsRow w.heap.size e s u n us := fun h =>
      own_base (own_from (B := 0) h (grownBy_putObj' W D _) (fun r e => by cases e; exact ⟨Nat.zero_le _, _, hK, rfl⟩)) (by omega)
    refine ⟨_, results_tmp2 rfl _ _ _, .slice Av (chQ len z) cv, outs, xs, rfl, hput HO.out, fun k hk => ?_, hB.trans (belowK_b (w := w) (Nat.le_refl _) W D _ _ (by omega) hK rfl rfl)⟩
    obtain ⟨g1, g2⟩ := HC.out k hk
    rw [upN_get hk] at g1 g2
    exact ⟨hput g1, g2⟩
  case stop =>
    rintro D c pre W _ _ h _
    exact h.elim
theorem o_Batches (A : Option Addr) (b off len cap z : Nat) (ds : Nat → Int) (w : World) (hz : 1 ≤ z) (hz2 : z ≤ 256) (hlen : len ≤ 256) (hlc : len ≤ cap) (hA : 0 < len → A = some ⟨b, off, none⟩) (hb : b < w.heap.size) (hst : ∀ i, i < len → StmAt w b (off + i * 6) (ds i)) :
    Calls Tryd.prog 13 #[.slice A len cap, .int .i64 (z : Int)] w (BatE len z ds w) :=
  callsIn_wide.1 (o_Batches_in A b off len cap z ds w hz hz2 hlen hlc hA hb hst)
end Go.Proofs.YthfmmememdlekaaDoor
