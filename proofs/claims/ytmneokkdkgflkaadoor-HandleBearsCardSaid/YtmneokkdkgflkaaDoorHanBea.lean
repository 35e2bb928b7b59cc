/- Words for the law on wrong parts: what is kept beside two blocks; who has lied. -/
import Derived.Test.YtmneokkdkgflkaaDoorHanLawA
import Derived.Test.YtmneokkdkgflkaaDoorHanRbs
import Derived.Test.YtmneokkdkgflkaaDoorKitWord
set_option linter.unusedVariables false
set_option linter.unusedSimpArgs false
namespace Go.Proofs.YtmneokkdkgflkaaDoor
open Go.RowKit Num

/-- All but two blocks is as it was. -/
structure Far2 (d g : Nat) (w w' : World) : Prop where
  size : w.heap.size ≤ w'.heap.size
  os : w'.os = w.os
  tape : w'.tape = w.tape
  output : w'.output = w.output
  block : ∀ b, b < w.heap.size → b ≠ d → b ≠ g → w'.heap[b]? = w.heap[b]?
section
variable {d g : Nat} {a b c : World}
theorem Far2.refl (d g : Nat) (w : World) : Far2 d g w w := ⟨Nat.le_refl _, rfl, rfl, rfl, fun _ _ _ _ => rfl⟩
theorem Far2.trans (h : Far2 d g a b) (k : Far2 d g b c) : Far2 d g a c :=
  ⟨Nat.le_trans h.size k.size, k.os.trans h.os, k.tape.trans h.tape, k.output.trans h.output, fun i hi e1 e2 => (k.block i (Nat.lt_of_lt_of_le hi h.size) e1 e2).trans (h.block i hi e1 e2)⟩
theorem Far2.below (h : Far2 d g a b) (k : Below b.heap.size b c) : Far2 d g a c :=
  h.trans ⟨k.size, k.os, k.tape, k.output, fun i hi _ _ => k.block i hi⟩
theorem Far2.grown (h : Far2 d g a b) (k : b.grownBy c (some d)) : Far2 d g a c :=
  h.trans ⟨k.size, k.os, k.tape, k.output, fun i hi e _ => k.block i hi (by intro e'; injection e' with e'; exact e e')⟩
theorem Far2.alloc (h : Far2 d g a b) (o : Obj) : Far2 d g a (b.alloc o) := h.below ((Below.refl _ _).alloc (Nat.le_refl _) _)
theorem Far2.drew (h : Far2 d g a b) : Far2 d g a b.drew := ⟨h.size, h.os, h.tape, h.output, h.block⟩
theorem Far2.set_ (h : Far2 d g a b) {p : Addr} (hp : p.block = g ∨ a.heap.size ≤ p.block) (u : Value) : Far2 d g a (b.setCell p u) :=
  ⟨by have := h.size; simpa [World.setCell] using this, h.os, h.tape, h.output, fun i hi e1 e2 => (Below.heap_setCell b p u i (by rcases hp with h | h <;> omega)).trans (h.block i hi e1 e2)⟩
theorem Far2.cell (h : Far2 d g a b) {p : Addr} (h1 : p.block < a.heap.size) (h2 : p.block ≠ d) (h3 : p.block ≠ g) : b.cell? p = a.cell? p := World.cell?_of_block (h.block p.block h1 h2 h3)
/-- As seen from below both blocks. -/
theorem Far2.base {w : World} (h : Far2 d g a b) (k : Below d w a) (hd : d ≤ a.heap.size) (hdg : d ≤ g) : Below d w b :=
  ⟨h.os.trans k.os, h.tape.trans k.tape, h.output.trans k.output, Nat.le_trans k.size h.size, fun i hi => (h.block i (by omega) (by omega) (by omega)).trans (k.block i hi)⟩
end
theorem run_index_bools (CS : List Value) (f : Nat → Bool) (hl : CS.length = 17) (h : ∀ j, j < 17 → CS[j]? = some (.bool (f j))) (m : Nat) (W : World) (hm : m < 17) :
    (Instr.index 61 (.agg CS.toArray) (.int .i64 (m : Int))).run Tryd.prog W = .ok (.bool (f m)) W := by
  have h1 := h m hm
  have h2 : (0 : Int) ≤ (m : Int) ∧ (m : Int) < 17 := by omega
  have hu := Tryd.underlying61
  have hb := Tryd.underlying4
  obtain ⟨b0, hbi, hb0, hb1, hb2⟩ := info_parts (show (Tryd.prog.info? 4).map (fun i => (i.zero, i.size, i.bytes)) = some (some (.bool false), 1, 1) by kernel_rfl)
  simp [Instr.index, asIntOf, run_underlying hu, run_underlying hb, part, sizeOf, typeInfo, hbi, hb1, isAgg, h1, h2, hm, go_sem]
theorem own_keepB {w w' : World} {B : Nat} {e : TypeId} {s n : Nat} {v : Value} {xs : List Value} (h : w.ownsRow B e s v n xs) (hk : ∀ b, B ≤ b → b < w.heap.size → w'.heap[b]? = w.heap[b]?) : w'.ownsRow B e s v n xs := by
  refine ⟨h.1, ?_⟩
  rcases h.2 with ⟨rfl, h0⟩ | ⟨g, cap, cur, rfl, hB, hh, r⟩
  · exact .inl ⟨rfl, h0⟩
  · exact .inr ⟨g, cap, cur, rfl, hB, (hk g hB (Array.getElem?_eq_some_iff.1 hh).1).trans hh, r⟩
theorem OwnSh.keepB {w w' : World} {B : Nat} {v : Value} {L : List Sh} (h : OwnSh w B v L) (hk : ∀ b, B ≤ b → b < w.heap.size → w'.heap[b]? = w.heap[b]?) : OwnSh w' B v L := by
  obtain ⟨cells, hr, h2⟩ := h
  refine ⟨cells, own_keepB hr hk, fun k hk' => ?_⟩
  obtain ⟨u, h3, h4, h5⟩ := h2 k hk'
  exact ⟨u, h3, h4, own_keepB h5 hk⟩
theorem ArrV.keepB {w w' : World} {B n : Nat} {f : Nat → Value} (h : ArrV w B n f) (hk : w'.heap[B]? = w.heap[B]?) : ArrV w' B n f :=
  ⟨fun j hj => (World.cell?_of_block (a := ⟨B, j, none⟩) hk).trans (h.cell j hj), fun j hj => (World.frozen?_of_block (a := ⟨B, j, none⟩) hk).trans (h.live j hj)⟩
/-- What a part may be: of the group; the right one, or, of the first ones, another one. -/
def PV (p x lies : Nat) (LT : List Sh) (k : Nat) (v : Int) : Prop :=
  inG p (2 * p + 1) v = true ∧ (lies ≤ k → v = (pw (2 * p + 1) x ((shAt LT k).2.getD 0 0).toNat : Nat)) ∧ (k < lies → v ≠ (pw (2 * p + 1) x ((shAt LT k).2.getD 0 0).toNat : Nat))
structure LieOk (p x lies : Nat) (LT ys : List Sh) : Prop where
  holder : ∀ k, k < ys.length → (shAt ys k).1 = (shAt LT k).1
  one : ∀ k, k < ys.length → (shAt ys k).2.length = 1
  val : ∀ k, k < ys.length → PV p x lies LT k ((shAt ys k).2.getD 0 0)
theorem LieOk.nil (p x lies : Nat) (LT : List Sh) : LieOk p x lies LT [] := ⟨fun k hk => absurd hk (by simp), fun k hk => absurd hk (by simp), fun k hk => absurd hk (by simp)⟩
theorem LieOk.snoc {p x lies : Nat} {LT ys : List Sh} (h : LieOk p x lies LT ys) (v : Int) (hv : PV p x lies LT ys.length v) (hd : Int) (hh : (shAt LT ys.length).1 = hd) : LieOk p x lies LT (ys ++ [(hd, [v])]) := by
  have key : ∀ k, k < (ys ++ [(hd, [v])]).length → (k < ys.length ∧ shAt (ys ++ [(hd, [v])]) k = shAt ys k) ∨ (k = ys.length ∧ shAt (ys ++ [(hd, [v])]) k = (hd, [v])) := fun k hk => by
    rcases Nat.lt_or_ge k ys.length with h1 | h1
    · exact .inl ⟨h1, shAt_snoc_old ys _ k h1⟩
    · have : k = ys.length := by simp at hk; omega
      subst this; exact .inr ⟨rfl, shAt_snoc_new ys _⟩
  refine ⟨fun k hk => ?_, fun k hk => ?_, fun k hk => ?_⟩
  · rcases key k hk with ⟨h1, h2⟩ | ⟨h1, h2⟩
    · rw [h2]; exact h.holder k h1
    · rw [h2, h1]; exact hh.symm
  · rcases key k hk with ⟨h1, h2⟩ | ⟨h1, h2⟩
    · rw [h2]; exact h.one k h1
    · rw [h2]; rfl
  · rcases key k hk with ⟨h1, h2⟩ | ⟨h1, h2⟩
    · rw [h2]; exact h.val k h1
    · rw [h2, h1]; exact hv
theorem lie_val {p x y e : Nat} (hp : SPrm p) (hx : inG p (2 * p + 1) (x : Int) = true) (h1 : 1 ≤ e) (h2 : e < p) :
    inG p (2 * p + 1) ((pw (2 * p + 1) x y * pw (2 * p + 1) 4 e % (2 * p + 1) : Nat) : Int) = true ∧ pw (2 * p + 1) x y * pw (2 * p + 1) 4 e % (2 * p + 1) ≠ pw (2 * p + 1) x y := by
  have h3 := hp.2.2.1
  obtain ⟨ex, hex, rfl⟩ := grp_log hp hx
  rw [pw_pw, pw_add]
  refine ⟨pw_grp hp (base_grp hp), fun h => ?_⟩
  rw [← pw_mod_exp (m := 2 * p + 1) (by omega) (grp_one (base_grp hp)) (ex * y + e), ← pw_mod_exp (m := 2 * p + 1) (by omega) (grp_one (base_grp hp)) (ex * y)] at h
  have := pw_inj4 hp (Nat.mod_lt _ (by omega)) (Nat.mod_lt _ (by omega)) h
  generalize ex * y = a at this
  have e1 := Nat.div_add_mod a p
  have e2 := Nat.div_add_mod (a + e) p
  have hd : p ∣ e := by
    have h5 : p * (a / p) + e = p * ((a + e) / p) := by omega
    exact (Nat.dvd_add_right ⟨a / p, rfl⟩).1 ⟨(a + e) / p, h5⟩
  have := Nat.le_of_dvd h1 hd
  omega
theorem seenV_step (LT : List Sh) (k lies h : Nat) (hk : k < lies) (hh : (shAt LT k).1 = (h : Int)) (j : Nat) : updV (seenV LT (min k lies)) h (.bool true) j = seenV LT (min (k + 1) lies) j := by
  rw [Nat.min_eq_left (by omega), Nat.min_eq_left (by omega)]
  unfold updV
  by_cases hjH : j = h
  · rw [if_pos hjH]
    unfold seenV
    congr 1
    exact (decide_eq_true ⟨k, by omega, by rw [hh, hjH]⟩).symm
  · rw [if_neg hjH]
    unfold seenV
    congr 1
    rw [decide_eq_decide]
    constructor
    · rintro ⟨i, hi, hii⟩; exact ⟨i, by omega, hii⟩
    · rintro ⟨i, hi, hii⟩
      refine ⟨i, ?_, hii⟩
      rcases Nat.lt_or_ge i k with h | h
      · exact h
      · have : i = k := by omega
        subst this
        rw [hh] at hii; omega
theorem Far2.own {d g : Nat} {a b c : World} (h : Far2 d g a b) {r : Option Nat} (k : b.grownBy c r) (hr : ∀ q, r = some q → a.heap.size ≤ q) : Far2 d g a c :=
  ⟨Nat.le_trans h.size k.size, k.os.trans h.os, k.tape.trans h.tape, k.output.trans h.output, fun i hi e1 e2 => (k.block i (Nat.lt_of_lt_of_le hi h.size) (fun e => by have := hr i e.symm; omega)).trans (h.block i hi e1 e2)⟩
theorem asc_ext : ∀ xs ys : List Int, xs.Pairwise (· < ·) → ys.Pairwise (· < ·) → (∀ a, a ∈ xs ↔ a ∈ ys) → xs = ys := by
  intro xs
  induction xs with
  | nil =>
    intro ys _ _ h
    cases ys with
    | nil => rfl
    | cons b ys => exact absurd ((h b).2 (by simp)) (by simp)
  | cons a xs ih =>
    intro ys hx hy h
    cases ys with
    | nil => exact absurd ((h a).1 (by simp)) (by simp)
    | cons b ys =>
      rw [List.pairwise_cons] at hx hy
      have hab : a = b := by
        rcases List.mem_cons.1 ((h a).1 (by simp)) with e | e
        · exact e
        · rcases List.mem_cons.1 ((h b).2 (by simp)) with e2 | e2
          · exact e2.symm
          · have := hy.1 a e; have := hx.1 b e2; omega
      subst hab
      rw [ih ys hx.2 hy.2 fun c => ⟨fun hc => ?_, fun hc => ?_⟩]
      · rcases List.mem_cons.1 ((h c).1 (by simp [hc])) with e | e
        · have := hx.1 c hc; omega
        · exact e
      · rcases List.mem_cons.1 ((h c).2 (by simp [hc])) with e | e
        · have := hy.1 c hc; omega
        · exact e
theorem filter_lt (m : Nat) : ∀ n : Nat, ((List.range n).filter fun i => decide (i < m)).length ≤ m ∧ ((List.range n).filter fun i => decide (i < m)).length ≤ n := by
  intro n
  induction n with
  | zero => simp
  | succ n ih =>
    rw [List.range_succ, List.filter_append, List.length_append]
    by_cases h : n < m
    · simp [h]; omega
    · simp [h]; omega
/-- The holders that have lied, as the law counts them. -/
def liarsL (LT : List Sh) (lies : Nat) : List Int := ((List.range 17).filter fun h : Nat => decide (∃ i, i < lies ∧ (shAt LT i).1 = ((h : Nat) : Int))).map Int.ofNat
def liarsM (LT : List Sh) (lies m : Nat) : List Int := ((List.range m).filter fun h : Nat => decide (∃ i, i < lies ∧ (shAt LT i).1 = ((h : Nat) : Int))).map Int.ofNat
theorem liarsM_17 (LT : List Sh) (lies : Nat) : liarsM LT lies 17 = liarsL LT lies := rfl
theorem liarsM_yes {LT : List Sh} {lies m : Nat} (h : decide (∃ i, i < lies ∧ (shAt LT i).1 = (m : Int)) = true) : liarsM LT lies (m + 1) = liarsM LT lies m ++ [(m : Int)] := by
  unfold liarsM
  rw [List.range_succ, List.filter_append, List.map_append]
  congr 1
  rw [List.filter_cons, if_pos h]; rfl
theorem liarsM_no {LT : List Sh} {lies m : Nat} (h : decide (∃ i, i < lies ∧ (shAt LT i).1 = (m : Int)) = false) : liarsM LT lies (m + 1) = liarsM LT lies m := by
  unfold liarsM
  rw [List.range_succ, List.filter_append, List.map_append, List.filter_cons, if_neg (by rw [h]; simp)]
  simp
theorem liarsM_len (LT : List Sh) (lies m : Nat) : (liarsM LT lies m).length ≤ m := by
  unfold liarsM
  rw [List.length_map]
  exact Nat.le_trans (List.length_filter_le _ _) (by simp)
section
variable {p hold x lies : Nat} {key : Int} {co : List Int} {LT ys : List Sh}
theorem LieOk.parts (h : LieOk p x lies LT ys) (hl : ys.length = LT.length) (hk : KeyOk p hold LT) : PartsOk p hold ys := by
  refine ⟨fun k hk' => ?_, fun i j hi hj hne => ?_, h.one, fun k hk' => (h.val k hk').1⟩
  · rw [h.holder k hk']; exact hk.holder k (by omega)
  · rw [h.holder i hi, h.holder j hj]; exact hk.once i j (by omega) (by omega) hne
theorem LieOk.bad_idx (h : LieOk p x lies LT ys) (hl : ys.length = LT.length) (ho : OfKey p hold (key :: co) LT) (k : Nat) (hk : k < ys.length) :
    decide (((pw (2 * p + 1) x (evH p (shAt ys k).1 (key :: co)).toNat : Nat) : Int) ≠ (shAt ys k).2.getD 0 0) = decide (k < lies) := by
  have hv := h.val k hk
  have e := ho.val k (by omega)
  rw [h.holder k hk, ← e, decide_eq_decide]
  constructor
  · intro hne
    rcases Nat.lt_or_ge k lies with h1 | h1
    · exact h1
    · exact absurd (hv.2.1 h1).symm hne
  · intro h1; exact (hv.2.2 h1).symm
theorem LieOk.bad_len (h : LieOk p x lies LT ys) (hl : ys.length = LT.length) (ho : OfKey p hold (key :: co) LT) : (badL p x (key :: co) ys).length ≤ lies := by
  unfold badL
  rw [List.length_map, filter_idx]
  have e : ((List.range ys.length).filter fun i => decide (((pw (2 * p + 1) x (evH p (shAt ys i).1 (key :: co)).toNat : Nat) : Int) ≠ (shAt ys i).2.getD 0 0)) = (List.range ys.length).filter fun i => decide (i < lies) :=
    List.filter_congr fun i hi => h.bad_idx hl ho i (List.mem_range.1 hi)
  rw [e]
  exact (filter_lt lies ys.length).1
theorem LieOk.bad_mem (h : LieOk p x lies LT ys) (hl : ys.length = LT.length) (hle : lies ≤ LT.length) (ho : OfKey p hold (key :: co) LT) (a : Int) : a ∈ badL p x (key :: co) ys ↔ ∃ i, i < lies ∧ (shAt LT i).1 = a := by
  have e : badL p x (key :: co) ys = ((List.range ys.length).filter fun i => decide (i < lies)).map fun i => (shAt LT i).1 := by
    unfold badL
    conv => lhs; rw [list_shAt ys]
    rw [List.filter_map, List.map_map]
    have e2 : ((List.range ys.length).filter ((fun s : Sh => decide (((pw (2 * p + 1) x (evH p s.1 (key :: co)).toNat : Nat) : Int) ≠ s.2.getD 0 0)) ∘ shAt ys)) = (List.range ys.length).filter fun i => decide (i < lies) :=
      List.filter_congr fun i hi => h.bad_idx hl ho i (List.mem_range.1 hi)
    rw [e2]
    refine List.map_congr_left fun i hi => ?_
    exact h.holder i (List.mem_range.1 (List.mem_filter.1 hi).1)
  rw [e, List.mem_map]
  constructor
  · rintro ⟨i, hi, rfl⟩; exact ⟨i, by simpa using (List.mem_filter.1 hi).2, rfl⟩
  · rintro ⟨i, hi, rfl⟩; exact ⟨i, List.mem_filter.2 ⟨List.mem_range.2 (by omega), by simpa using hi⟩, rfl⟩
theorem nodup_holders (hp : PartsOk p hold ys) : (ys.map (·.1)).Nodup := by
  rw [List.nodup_iff_pairwise_ne, List.pairwise_iff_getElem]
  intro i j hi hj hij
  simp only [List.getElem_map]
  rw [List.length_map] at hi hj
  have := hp.once i j hi hj (by omega)
  rwa [shAt_lt ys i hi, shAt_lt ys j hj] at this
/-- Who is named is who has lied. -/
theorem LieOk.named (h : LieOk p x lies LT ys) (hl : ys.length = LT.length) (hle : lies ≤ LT.length) (ho : OfKey p hold (key :: co) LT) (hh : hold ≤ 16) : srt (badL p x (key :: co) ys) = liarsL LT lies := by
  refine asc_ext _ _ ?_ ?_ fun a => ?_
  · have hs : (srt (badL p x (key :: co) ys)).Pairwise (fun a b => decide (a ≤ b) = true) := List.pairwise_mergeSort (fun a b c h1 h2 => by simp at *; omega) (fun a b => by simp; omega) _
    have hn : (srt (badL p x (key :: co) ys)).Nodup := by
      unfold srt
      rw [(List.mergeSort_perm _ _).nodup_iff]
      exact List.Nodup.sublist (List.filter_sublist.map _) (nodup_holders (h.parts hl ho.ok))
    rw [List.nodup_iff_pairwise_ne, List.pairwise_iff_getElem] at hn
    rw [List.pairwise_iff_getElem] at hs ⊢
    intro i j hi hj hij
    have h1 := hs i j hi hj hij
    have h2 := hn i j hi hj hij
    simp only [decide_eq_true_eq] at h1
    omega
  · unfold liarsL
    rw [List.pairwise_map]
    refine (List.Pairwise.sublist List.filter_sublist List.pairwise_lt_range).imp fun h => ?_
    simpa using h
  · unfold srt
    rw [(List.mergeSort_perm _ _).mem_iff, h.bad_mem hl hle ho]
    unfold liarsL
    rw [List.mem_map]
    constructor
    · rintro ⟨i, hi, rfl⟩
      have hb := ho.ok.holder i (by omega)
      refine ⟨(shAt LT i).1.toNat, List.mem_filter.2 ⟨List.mem_range.2 (by omega), ?_⟩, by simp; omega⟩
      rw [decide_eq_true_eq]
      exact ⟨i, hi, by omega⟩
    · rintro ⟨m, hm, rfl⟩
      have := (List.mem_filter.1 hm).2
      rw [decide_eq_true_eq] at this
      exact this
end
end Go.Proofs.YtmneokkdkgflkaaDoor
