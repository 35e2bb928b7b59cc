/- Contracts: order.Batches of whole statements. Contracts: order.Batches of whole statements: the walk. Contracts: order.Batches of whole statements, or the error. -/
import Derived.Test.YtgbhaaongmlpkaaGreatDoorX35
import Derived.Test.YtgbhaaongmlpkaaGreatDoorX29
set_option linter.unusedVariables false
set_option linter.unusedSimpArgs false
namespace Go.Proofs.YtgbhaaongmlpkaaGreatDoor
open Go.RowKit Go.Shelf Num

attribute [local go_sem] Oper.semAt_some

/-- A block of cells. -/
def CellsB (w : World) (b : Nat) : Prop := ∃ cs t fz, w.heap[b]? = some (.cells cs t fz)
theorem cellsB_of {w : World} {b off : Nat} {v : Value} (h : w.cell? ⟨b, off, none⟩ = some v) : CellsB w b := by
  unfold World.cell? at h
  dsimp only at h
  rcases hb : w.heap[b]? with _ | o
  · rw [hb] at h; cases h
  · cases o with
    | cells cs t fz => exact ⟨cs, t, fz, hb⟩
    | _ => rw [hb] at h; cases h
theorem CellsB.keep {w w' : World} {b : Nat} (h : CellsB w b) (e : w'.heap[b]? = w.heap[b]?) : CellsB w' b := by
  obtain ⟨cs, t, fz, hb⟩ := h
  exact ⟨cs, t, fz, e.trans hb⟩
section
variable {w : World} {S : Nat → Prop} {v : Value}
theorem ints_inC {L : List Int} (h : IntsAt w S v L) : IntsAt w (fun b => S b ∧ CellsB w b) v L := by
  obtain ⟨A, n, c, h1, h2, h3, h4⟩ := h
  refine ⟨A, n, c, h1, h2, h3, fun hn => ?_⟩
  obtain ⟨b, off, hA, hS, hc⟩ := h4 hn
  exact ⟨b, off, hA, ⟨hS, cellsB_of (hc 0 hn)⟩, hc⟩
theorem AnssAt.inC {L : List Ans} (h : AnssAt w S v L) : AnssAt w (fun b => S b ∧ CellsB w b) v L := by
  obtain ⟨A, n, c, h1, h2, h3, h4⟩ := h
  refine ⟨A, n, c, h1, h2, h3, fun hn => ?_⟩
  obtain ⟨b, off, hA, hS, hc⟩ := h4 hn
  exact ⟨b, off, hA, ⟨hS, cellsB_of (hc 0 hn).1⟩, hc⟩
theorem ShwsAt.inC {L : List Shw} (h : ShwsAt w S v L) : ShwsAt w (fun b => S b ∧ CellsB w b) v L := by
  obtain ⟨A, n, c, h1, h2, h3, h4⟩ := h
  refine ⟨A, n, c, h1, h2, h3, fun hn => ?_⟩
  obtain ⟨b, off, hA, hS, hc⟩ := h4 hn
  exact ⟨b, off, hA, ⟨hS, cellsB_of (hc 0 hn).1⟩, hc⟩
theorem TermsAt.inC {L : List Trm} (h : TermsAt w S v L) : TermsAt w (fun b => S b ∧ CellsB w b) v L := by
  obtain ⟨A, n, c, h1, h2, h3, h4⟩ := h
  refine ⟨A, n, c, h1, h2, h3, fun hn => ?_⟩
  obtain ⟨b, off, hA, hS, hc⟩ := h4 hn
  refine ⟨b, off, hA, ⟨hS, cellsB_of (hc 0 hn).1⟩, fun k hk => ?_⟩
  obtain ⟨e0, e1, e2, e3, e4, u, e5, e6⟩ := hc k hk
  exact ⟨e0, e1, e2, e3, e4, u, e5, ints_inC e6⟩
theorem StmAt.inC {va vc vs : Value} {s : Stm} (h : StmAt w S va vc vs s) : StmAt w (fun b => S b ∧ CellsB w b) va vc vs s := ⟨h.aa.inC, h.cc.inC, h.ss.inC⟩
end
/-- A part of a list. -/
def partL (L : List Stm) (z k : Nat) : List Stm := (L.drop (k * z)).take z
theorem partL_len (L : List Stm) (z k : Nat) : (partL L z k).length = chM L.length z k := by
  unfold partL chM
  rw [List.length_take, List.length_drop]
theorem partL_at (L : List Stm) (z k i : Nat) (h : i < chM L.length z k) : stmL (partL L z k) i = stmL L (k * z + i) := by
  unfold chM at h
  unfold stmL partL
  rw [List.getD_eq_getElem?_getD, List.getD_eq_getElem?_getD, List.getElem?_take, if_pos (by omega), List.getElem?_drop]
theorem partL_mem {L : List Stm} {z k : Nat} {s : Stm} (h : s ∈ partL L z k) : s ∈ L := List.mem_of_mem_drop (List.mem_of_mem_take h)
theorem partL_at_ {w : World} {S : Nat → Prop} {L : List Stm} {b off z x : Nat} (hS : S b) (h : ∀ k, k < L.length → CellAt w S b (off + k * 6) (stmL L k)) :
    StmsAt w S (.slice (some ⟨b, off + x * z * 6, none⟩) (chM L.length z x) (chM L.length z x)) (partL L z x) := by
  refine ⟨_, _, _, rfl, (partL_len L z x).symm, Nat.le_refl _, fun hn => ⟨b, off + x * z * 6, rfl, hS, fun k hk => ?_⟩⟩
  rw [partL_at L z x k hk]
  have := h (x * z + k) (by unfold chM at hk; omega)
  rw [show off + (x * z + k) * 6 = off + x * z * 6 + k * 6 by rw [Nat.add_mul]; omega] at this
  exact this
theorem infoL : (Tryz.prog.info? 28).map (fun i => (i.zero, i.size, i.bytes)) = some (some (.slice none 0 0), 1, 24) := by kernel_rfl
theorem own_from {X Y : World} {row : Option Nat} {B n₀ : Nat} {e : TypeId} {s n : Nat} {v : Value} {xs : List Value} (h : X.ownsRow n₀ e s v n xs) (hg : X.grownBy Y row) (hr : ∀ r, row = some r → B ≤ r ∧ ∃ o : Obj, X.heap[r]? = some o ∧ o.isCells = false) : Y.ownsRow n₀ e s v n xs := by
  refine h.kept hg ?_
  rcases h.2 with ⟨rfl, _⟩ | ⟨g, cap, cur, rfl, _, hgg, _⟩
  · exact .inl rfl
  · refine .inr fun e2 => ?_
    obtain ⟨_, o, ho, hc⟩ := hr g e2.symm
    rw [hgg] at ho
    injection ho with ho
    subst ho
    cases hc
theorem own_base {W : World} {B B' : Nat} {e : TypeId} {s n : Nat} {v : Value} {xs : List Value} (h : W.ownsRow B e s v n xs) (hb : B' ≤ B) : W.ownsRow B' e s v n xs := by
  refine ⟨h.1, ?_⟩
  rcases h.2 with h2 | ⟨g, cap, cur, a, b, rest⟩
  · exact .inl h2
  · exact .inr ⟨g, cap, cur, a, Nat.le_trans hb b, rest⟩
theorem grown_trans {a b c : World} {row : Option Nat} (h : a.grownBy b row) (k : b.grownBy c row) : a.grownBy c row :=
  ⟨k.os.trans h.os, k.tape.trans h.tape, k.output.trans h.output, Nat.le_trans h.size k.size, fun i hi hn => (k.block i (Nat.lt_of_lt_of_le hi h.size) hn).trans (h.block i hi hn)⟩
theorem keeps_grown {X Y : World} {row : Option Nat} (hg : X.grownBy Y row) (hr : ∀ r, row = some r → ∃ cs t fz, X.heap[r]? = some (.cells cs t fz)) : KeepsOthers X Y := by
  refine ⟨hg.size, fun k o hk ho => ?_⟩
  refine (hg.block k (Array.getElem?_eq_some_iff.1 hk).1 (fun e => ?_)).trans hk
  obtain ⟨cs, t, fz, hc⟩ := hr k e.symm
  rw [hk] at hc
  injection hc with hc
  subst hc
  cases ho
theorem own_block {W : World} {B : Nat} {e : TypeId} {s n : Nat} {v : Value} {xs : List Value} (h : W.ownsRow B e s v n xs) : ∀ r, v.ownBlock = some r → ∃ cs t fz, W.heap[r]? = some (.cells cs t fz) := by
  intro r hr
  rcases h.2 with ⟨rfl, _⟩ | ⟨g, cap, cur, rfl, _, hg, _⟩
  · cases hr
  · cases hr; exact ⟨_, _, _, hg⟩
theorem upN_get {k q : Nat} (h : k < q) : (upN q).getD k 0 = k := by
  unfold upN; rw [List.getD_eq_getElem?_getD, List.getElem?_range h]; rfl
/-- A part's copy, beside the list of the copies. -/
def PartO (n₀ : Nat) (lv : Value) (W : World) (v : Value) (L : List Stm) : Prop := ∃ us, W.ownsRow n₀ 36 6 v L.length (stsC L us fun _ => []) ∧
  ∀ k, k < L.length → StmAt W (fun b => n₀ ≤ b ∧ b < W.heap.size ∧ CellsB W b ∧ lv.ownBlock ≠ some b) (us k).a (us k).c (us k).s (stmL L k)
theorem PartO.from {n₀ B : Nat} {lv v : Value} {L : List Stm} {X Y : World} {row : Option Nat} (h : PartO n₀ lv X v L) (hg : X.grownBy Y row) (hr : ∀ r, row = some r → B ≤ r ∧ ∃ o : Obj, X.heap[r]? = some o ∧ o.isCells = false) : PartO n₀ lv Y v L := by
  obtain ⟨us, h1, h2⟩ := h
  have hk : ∀ b, b < X.heap.size → CellsB X b → Y.heap[b]? = X.heap[b]? := fun b hb hc => hg.block b hb fun e => by
    obtain ⟨_, o, ho, hoc⟩ := hr b e.symm
    obtain ⟨cs, t, fz, hcc⟩ := hc
    rw [hcc] at ho
    injection ho with ho
    subst ho
    cases hoc
  exact ⟨us, own_from h1 hg hr, fun k hkl => ((h2 k hkl).keep fun b hb => hk b hb.2.1 hb.2.2.1).mono fun b hb => ⟨hb.1, Nat.lt_of_lt_of_le hb.2.1 hg.size, hb.2.2.1.keep (hk b hb.2.1 hb.2.2.1), hb.2.2.2⟩⟩
/-- The list of the copies grows. -/
theorem PartO.grown {n₀ : Nat} {lv lv' v : Value} {L : List Stm} {X Y : World} {t : TypeId} {n : Nat} {xs : List Value} (h : PartO n₀ lv X v L) (hl : X.ownsRow n₀ t 1 lv n xs) (ht : 36 ≠ t) (hg : X.grownBy Y lv.ownBlock) (hat : ∀ b, lv'.ownBlock = some b → lv.ownBlock = some b ∨ X.heap.size ≤ b) : PartO n₀ lv' Y v L := by
  obtain ⟨us, h1, h2⟩ := h
  have hk : ∀ b, b < X.heap.size → lv.ownBlock ≠ some b → Y.heap[b]? = X.heap[b]? := fun b hb hc => hg.block b hb fun e => hc e.symm
  exact ⟨us, h1.kept hg (own_ne h1 hl ht), fun k hkl => ((h2 k hkl).keep fun b hb => hk b hb.2.1 hb.2.2.2).mono fun b hb => ⟨hb.1, Nat.lt_of_lt_of_le hb.2.1 hg.size, hb.2.2.1.keep (hk b hb.2.1 hb.2.2.2), fun e => by
    rcases hat b e with e2 | e2
    · exact hb.2.2.2 e2
    · have := hb.2.1; omega⟩⟩
/-- One block below is written. -/
theorem PartO.set {n₀ q : Nat} {lv v : Value} {L : List Stm} {X Y : World} (h : PartO n₀ lv X v L) (hg : X.grownBy Y (some q)) (hq : q < n₀) : PartO n₀ lv Y v L := by
  obtain ⟨us, h1, h2⟩ := h
  have hk : ∀ b, n₀ ≤ b → b < X.heap.size → Y.heap[b]? = X.heap[b]? := fun b hb hb2 => hg.block b hb2 fun e => by injection e; omega
  refine ⟨us, h1.kept hg ?_, fun k hkl => ((h2 k hkl).keep fun b hb => hk b hb.1 hb.2.1).mono fun b hb => ⟨hb.1, Nat.lt_of_lt_of_le hb.2.1 hg.size, hb.2.2.1.keep (hk b hb.1 hb.2.1), hb.2.2.2⟩⟩
  rcases hb : v.ownBlock with _ | r
  · exact .inl rfl
  · exact .inr fun e => by have := (h1.lt r hb).1; injection e; omega
/-- What copies.List gives. -/
theorem PartO.made {n₀ : Nat} {lv v : Value} {L : List Stm} {us : Nat → V3} {X Y : World} {t : TypeId} {n : Nat} {xs : List Value} (h : StsOwn Y X.heap.size 36 6 v L us fun _ => []) (hl : X.ownsRow n₀ t 1 lv n xs) (hn : n₀ ≤ X.heap.size) : PartO n₀ lv Y v L :=
  ⟨us, own_base h.row hn, fun k hk => (h.at_ k hk).inC.mono fun b hb => ⟨by have := hb.1.1; omega, hb.1.2.1, hb.2, fun e => by have := (hl.lt b e).2; have := hb.1.1; omega⟩⟩
theorem PartO.stms {n₀ : Nat} {lv v : Value} {L : List Stm} {W : World} (h : PartO n₀ lv W v L) : StmsAt W (fun b => n₀ ≤ b ∧ b < W.heap.size) v L := by
  obtain ⟨us, h1, h2⟩ := h
  rcases id h1.2 with ⟨rfl, h0⟩ | ⟨g, cap, cur, rfl, hB, hh, hnc, _⟩
  · exact ⟨none, 0, 0, rfl, h0.symm, Nat.le_refl _, fun hn => absurd hn (Nat.lt_irrefl 0)⟩
  · refine ⟨_, L.length, cap, rfl, rfl, hnc, fun hn => ⟨g, 0, rfl, ⟨hB, (Array.getElem?_eq_some_iff.1 hh).1⟩, fun k hk => ⟨us k, fun j hj => ?_, (h2 k hk).mono fun b hb => ⟨hb.1, hb.2.1⟩⟩⟩⟩
    rw [Nat.zero_add]
    have hget := flat_get (fun k => stmCell (stmL L k) (us k) ++ []) 6 (fun _ => rfl) L.length k j hk hj
    rw [List.append_nil] at hget
    have hl : j < (stmCell (stmL L k) (us k)).length := hj
    rw [List.getElem?_eq_getElem hl] at hget
    rw [own_cell h1 _ _ hget, List.getD_eq_getElem?_getD, List.getElem?_eq_getElem hl]; rfl
/-- What has been laid behind some parts: the list of the copies, in a block of its own, and each copy. -/
def BI (n₀ B6 z : Nat) (L : List Stm) (pre : List Nat) (W : World) : Prop := ∃ (v : Value) (outs : Nat → Value), Boxed W B6 47 v ∧ W.ownsRow n₀ 28 1 v pre.length ((List.range pre.length).map outs) ∧ ∀ k, k < pre.length → PartO n₀ v W (outs k) (partL L z (pre.getD k 0))
theorem BI.from (n₀ B6 z : Nat) (L : List Stm) (B : Nat) : OwnFrom B (BI n₀ B6 z L) := by
  intro s X Y row hs hg hr
  obtain ⟨v, outs, h1, h2, h3⟩ := hs
  refine ⟨v, outs, h1.kept hg (fun e => ?_), own_from h2 hg hr, fun k hk => (h3 k hk).from hg hr⟩
  obtain ⟨_, o, ho, hc⟩ := hr B6 e.symm
  rw [show X.heap[B6]? = _ from h1] at ho
  injection ho with ho
  subst ho
  cases hc
/-- The batches. -/
def BatQ (L : List Stm) (z : Nat) (w : World) (e : Ending) (w' : World) : Prop := ∃ (v : Value) (outs : Nat → Value), e = .returned (.tuple #[v, .int .i64 0]) ∧ w'.ownsRow w.heap.size 28 1 v (chQ L.length z) ((List.range (chQ L.length z)).map outs) ∧ (∀ k, k < chQ L.length z → StmsAt w' (· < w'.heap.size) (outs k) (partL L z k)) ∧ Below w.heap.size w w'
end Go.Proofs.YtgbhaaongmlpkaaGreatDoor
namespace Go.Proofs.YtgbhaaongmlpkaaGreatDoor
open Go.RowKit Go.Shelf Num

attribute [local go_sem] Oper.semAt_some

set_option maxRecDepth 100000 in
set_option maxHeartbeats 4000000 in
theorem o_BatchesS_in (A : Option Addr) (b off len cap z : Nat) (L : List Stm) (S : Nat → Prop) (w : World) (hz : 1 ≤ z) (hz2 : z ≤ 256) (hlL : len = L.length) (hlen : len ≤ 256) (hlc : len ≤ cap) (hA : 0 < len → A = some ⟨b, off, none⟩) (hSb : S b) (hS : ∀ b, S b → b < w.heap.size) (hst : ∀ i, i < len → CellAt w S b (off + i * 6) (stmL L i)) (hok : ∀ s ∈ L, StmOk s ∧ ∀ t ∈ s.cond, t.args.length ≤ 1000000) :
    CallsIn Fence.wide 3 Tryz.prog 13 #[.slice A len cap, .int .i64 (z : Int)] w (BatQ L z w) := by
  have h1 : 1 ≤ 3 := by omega
  have hro : Fence.wide.round = none := rfl
  refine callsIn_of_wp_marks Tryz.func13 rfl trivial ?_ hro
  simp only [Tryz.ntmps13, List.size_toArray, List.length_cons, List.length_nil, Nat.reduceAdd, Nat.reduceSub, Array.replicate_succ, Array.replicate_zero, List.push_toArray, List.append_toArray, List.nil_append, List.cons_append]
  have zl : ¬ (256 : Int) < (len : Int) := by omega
  have hb := hS b hSb
  have HST := Lib.hid hst
  have HLL := Lib.hid hlL
  have HOKS := Lib.hid hok
  have HSS := Lib.hid hS
  have HSB := Lib.hid hSb
  have HA := Lib.hid hA
  clear hst hA hlL hok hS hSb
  gi_wp2
  refine ⟨trivial, ?_⟩
  refine (callsIn_wide.2 (o_In _ _ _ _)).mono ?_
  rintro e w1 ⟨rfl, rfl⟩
  rw [decide_eq_true (show (1 : Int) ≤ (z : Int) ∧ (z : Int) ≤ 256 by omega)]
  gi_wp2
  refine ⟨trivial, ?_⟩
  refine (callsIn_wide.2 (s_Chunk A len cap z _ hz)).mono ?_
  rintro e w' ⟨rfl, rfl⟩
  have c0 := Boxed.new w 47 (.slice none 0 0)
  have c1 := Boxed.new (w.alloc (.cells #[.slice none 0 0] 47)) 28 (.slice A len cap)
  have c2 := Boxed.new ((w.alloc (.cells #[.slice none 0 0] 47)).alloc (.cells #[.slice A len cap] 28)) 3 (.int .i64 (z : Int))
  simp only [World.size_alloc] at c1 c2
  have d0 := (c0.alloc (.cells #[.slice A len cap] 28)).alloc (.cells #[.int .i64 (z : Int)] 3)
  have d1 := c1.alloc (.cells #[.int .i64 (z : Int)] 3)
  have hB3 : Below w.heap.size w (((w.alloc (.cells #[.slice none 0 0] 47)).alloc (.cells #[.slice A len cap] 28)).alloc (.cells #[.int .i64 (z : Int)] 3)) := (((Below.refl _ w).alloc (Nat.le_refl _) _).alloc (by simp) _).alloc (by simp; omega) _
  have hsz : (((w.alloc (.cells #[.slice none 0 0] 47)).alloc (.cells #[.slice A len cap] 28)).alloc (.cells #[.int .i64 (z : Int)] 3)).heap.size = w.heap.size + 3 := by simp
  gi_wp2
  have hst2 : ∀ W, Below w.heap.size w W → ∀ i, i < len → CellAt W S b (off + i * 6) (stmL L i) := fun W hW i hi => (HST.out i hi).keep (hW.block b hb) (fun q hq => hW.block q (HSS.out q hq))
  have hst3 := chunk_stops (w.heap.size + 1) (w.heap.size + 1 + 1) w.heap.size len cap z b off hz hz2 hlen hlc _ (by rw [hsz]; omega) (by rw [hsz]; omega) (by rw [hsz]; omega) A HA.out d1.cell c2.cell
  generalize (((w.alloc (.cells #[.slice none 0 0] 47)).alloc (.cells #[.slice A len cap] 28)).alloc (.cells #[.int .i64 (z : Int)] 3)) = w4 at *
  have hmx : Tryz.prog.follows .mixedOrders = true := by kernel_rfl
  have hq : chQ len z ≤ 256 := by
    unfold chQ
    exact Nat.le_trans (Nat.div_le_div_left hz (by omega)) (by rw [Nat.div_one]; omega) |> fun h => by
      have h2 : (len + z - 1) / z ≤ len := by
        rcases Nat.eq_zero_or_pos len with h0 | h0
        · subst h0; rw [Nat.div_eq_of_lt (by omega)]; omega
        · exact Nat.div_le_of_le_mul (by have := Nat.mul_le_mul_left len hz; have h5 : z * len = len + (z - 1) * len := by rw [Nat.sub_mul, Nat.one_mul]; have := Nat.mul_le_mul_right len hz; omega
                                         have h6 := Nat.mul_le_mul_left (z - 1) h0; omega)
      omega
  refine wpIn_rangeFunc_ownG hro h1 (gf := 40) (lb := #[.pointer (some ⟨w.heap.size + 1, 0, none⟩), .pointer (some ⟨w.heap.size + 1 + 1, 0, none⟩)]) rfl trivial (enters_of Tryz.func40 (by kernel_rfl) rfl)
    hst3 (fun h k => BKc.trans h k) (bkc_b (by rw [hsz]; omega) (by rw [hsz]; omega) (by rw [hsz]; omega)) (Below.refl _ _) (fun _ => rfl)
    (fun pre W => BI (w.heap.size + 3) w.heap.size z L pre W ∧ Below w.heap.size w W ∧ w.heap.size + 3 ≤ W.heap.size)
    (fun _ _ _ => False)
    (OwnFrom.and (BI.from _ _ _ _ _) (OwnFrom.and (ownFrom_below (Nat.le_refl _) (by rw [hsz]; omega)) (fun _ _ _ _ hs hg _ => Nat.le_trans hs hg.size)))
    (fun _ _ _ _ _ hs _ _ => hs)
    ⟨⟨.slice none 0 0, fun _ => undef, d0, World.ownsRow_nil _ _ _ _, fun k hk => absurd hk (by simp)⟩, hB3, by rw [hsz]; exact Nat.le_refl _⟩
    (fun x => { tmps := #[.slice A len cap, .int .i64 (z : Int), undef, undef, .slice none 0 0, .int .i64 0, .pointer (some ⟨w.heap.size, 0, none⟩), (.slice (some ⟨b, off + x * z * 6, none⟩) (chM len z x) (chM len z x)), .bool false, .int .i64 (z : Int), .bool true, .bool false, .bool (decide ((256 : Int) < (len : Int))), .slice A len cap, .int .i64 (len : Int), .bool (decide ((256 : Int) < (len : Int))), .slice A len cap, .int .i64 (z : Int), .func (.func 40) #[] #[.pointer (some ⟨w.heap.size + 1, 0, none⟩), .pointer (some ⟨w.heap.size + 1 + 1, 0, none⟩)], (.slice (some ⟨b, off + x * z * 6, none⟩) (chM len z x) (chM len z x)), undef, undef, undef, undef, undef, undef], defers := [] }) ?assign ?body ?done ?stop
  case assign =>
    intro l c W K hK
    gi_wp2
    exact hK
  case body =>
    rintro l pre x W ⟨hI, hB, hn1⟩ hpl
    obtain ⟨i0, hi, hy0, hy1, hy2⟩ := info_parts infoL
    obtain ⟨v, outs, b6, ho, hc⟩ := hI
    obtain ⟨Av, cv, rfl⟩ := own_slice ho
    have hsW := hB.size
    have stx : StmsAt W.drew S (.slice (some ⟨b, off + x * z * 6, none⟩) (chM len z x) (chM len z x)) (partL L z x) := by
      have h := partL_at_ (L := L) (z := z) (x := x) HSB.out (fun i hi => hst2 W hB i (by rw [HLL.out]; exact hi))
      rw [← HLL.out] at h
      exact h.keep (w' := W.drew) fun q hq => rfl
    have hxl : (partL L z x).length ≤ 1000 := by
      rw [partL_len, ← HLL.out]; unfold chM; omega
    have hmx2 : chM len z x ≤ 256 := by unfold chM; omega
    have k0 := b6.cell
    have f0 := b6.frozen
    have HO := Lib.hid ho
    have HC := Lib.hid hc
    have HB6 := Lib.hid b6
    have HST2 := Lib.hid stx
    have HXL := Lib.hid hxl
    clear ho hc stx hxl
    gi_wp2
    refine region_round_last _ _ (fun W' => W'.cell? ⟨w.heap.size, 0, none⟩ = some (.slice Av pre.length cv) ∧ Hid (W.grownBy W' (Value.slice Av pre.length cv).ownBlock)) hmx (by kernel_rfl) rfl (by kernel_rfl) ⟨k0, Lib.hid (only_drew (World.grownBy.refl W _))⟩ (fun hS => ?_)
    simp only [List.dropLast]
    refine wpAnyH_take (i := 0) (v := ?_) rfl (by kernel_rfl) (by kernel_rfl) (by kernel_rfl) (fun _ _ _ h => h) (Or.inl ⟨by rfl, ?_⟩) (by assumption) ?_
    rotate_left
    · (intro w hSw; (try dsimp only at hSw); go_split_ands; go_simp; try (with_reducible rfl))
    try simp only [Act.put, List.setIfInBounds_toArray, List.set_cons_zero, List.set_cons_succ]
    refine wpAnyH_take (i := 1) (v := ?_) rfl (by kernel_rfl) (by kernel_rfl) (by kernel_rfl) (fun _ _ _ h => h) (Or.inl ⟨by rfl, ?_⟩) (by assumption) ?_
    rotate_left
    · (intro w hSw; (try dsimp only at hSw); go_split_ands; go_simp; try (with_reducible rfl))
    try simp only [Act.put, List.setIfInBounds_toArray, List.set_cons_zero, List.set_cons_succ]
    refine wpAnyH_ready (rs := [2]) (by kernel_rfl) (by simp) ?_
    refine AllReadyH.cons rfl (fun K hK => ?_) AllReadyH.nil
    go_simp
    refine (c_ListSG (some ⟨b, off + x * z * 6, none⟩) (chM len z x) (chM len z x) (partL L z x) S W.drew HST2.out (fun q hq => Nat.lt_of_lt_of_le (HSS.out q hq) hsW) HXL.out (fun s hs => HOKS.out s (partL_mem hs))).mono ?_
    rintro e wk ⟨cx, usx, rfl, hsto, hbk⟩
    have hox := hsto.row
    have hbk' : Below W.heap.size W wk := ((Below.refl W.heap.size W).drew).trans hbk
    obtain ⟨Ax, cax, rfl⟩ := own_slice hox
    have hgk : W.grownBy wk (Value.slice Av pre.length cv).ownBlock := only_of_below hbk' _
    have k1 : wk.cell? ⟨w.heap.size, 0, none⟩ = some (.slice Av pre.length cv) := (hbk'.cell (p := ⟨w.heap.size, 0, none⟩) (by show w.heap.size < _; omega)).trans k0
    have HGK := Lib.hid hgk
    have hpx : PartO (w.heap.size + 3) (.slice Av pre.length cv) wk (.slice Ax (partL L z x).length cax) (partL L z x) := PartO.made hsto HO.out (by show w.heap.size + 3 ≤ W.heap.size; omega)
    have HPX := Lib.hid hpx
    obtain ⟨mx, hmx9⟩ : ∃ mx, (partL L z x).length = mx := ⟨_, rfl⟩
    rw [hmx9] at HPX ⊢
    clear hmx9
    have HBK := Lib.hid hbk'
    have hok := HO.out.kept (only_of_below hbk' none) (by cases (Value.slice Av pre.length cv).ownBlock <;> simp)
    have HOK := Lib.hid hok
    have hsk := hbk'.size
    clear hox hsto hpx hbk hbk' hgk hok
    refine hK.out _ _ (⟨k1, HGK⟩) (fun hHeld => ?_)
    clear hK K
    try simp only [Act.put, List.setIfInBounds_toArray, List.set_cons_zero, List.set_cons_succ]
    refine wpAnyH_ready (rs := [3]) (by kernel_rfl) (by simp) ?_
    refine AllReadyH.cons rfl (fun K hK => ?_) AllReadyH.nil
    go_simp
    refine hK.out _ _ (⟨(World.cell?_alloc_lt wk _ ⟨w.heap.size, 0, none⟩ (by show w.heap.size < _; omega)).trans k1, Lib.hid (only_alloc HGK.out _)⟩) (fun hHeld => ?_)
    clear hK K
    try simp only [Act.put, List.setIfInBounds_toArray, List.set_cons_zero, List.set_cons_succ]
    refine wpAnyH_ready (rs := [4]) (by kernel_rfl) (by simp) ?_
    refine AllReadyH.cons rfl (fun K hK => ?_) AllReadyH.nil
    refine step_append_lies _ (by rfl) _ _ _ (by rfl) (w.heap.size + 3) 28 i0 _ 1 24 Tryz.underlying47 hi hy0 hy1 hy2 rfl (by omega) _ pre.length _ (by rfl) (HOK.out.alloc _) ⟨wk.heap.size, 0, none⟩ 1 1 [.slice Ax mx cax] (by rfl) (by rfl) (cell_one_new _ _ _) (by intro u hu; rw [List.mem_singleton.1 hu]; rfl) (by omega) (by simp only [maxLen]; omega) (by omega) (by simp; omega) (wk.heap.size + 1) (by simp) ?_
    intro gg cap5 w5 hown5 hgrow5 hat5 hlt5
    have hne6 : some w.heap.size ≠ (Value.slice Av pre.length cv).ownBlock := fun e => by have := (HOK.out.lt _ e.symm).1; omega
    have hg5 : wk.grownBy w5 (Value.slice Av pre.length cv).ownBlock := grown_trans (only_alloc (World.grownBy.refl wk _) _) hgrow5
    have hgW : W.grownBy w5 (Value.slice Av pre.length cv).ownBlock := grown_trans HGK.out hg5
    have k5 : w5.cell? ⟨w.heap.size, 0, none⟩ = some (.slice Av pre.length cv) := hg5.cell (a := ⟨w.heap.size, 0, none⟩) k1 hne6
    have b65 : Boxed w5 w.heap.size 47 (.slice Av pre.length cv) := HB6.out.kept hgW hne6
    have HG5 := Lib.hid hg5
    have HAT5 := Lib.hid hat5
    have HGW := Lib.hid hgW
    have HO5 := Lib.hid hown5
    have HB65 := Lib.hid b65
    have f5 := b65.frozen
    clear hown5 hgrow5 hat5 hg5 hgW b65
    refine hK.out _ _ (⟨k5, HGW⟩) (fun hHeld => ?_)
    clear hK K
    try simp only [Act.put, List.setIfInBounds_toArray, List.set_cons_zero, List.set_cons_succ]
    refine wpAnyH_done (by kernel_rfl) ?_ _
    refine lastQ_step (by rfl) (by rfl) ?_
    go_simp
    unfold NoOut
    gi_wp2
    have hKO : KeepsOthers W (w5.setCell ⟨w.heap.size, 0, none⟩ (.slice (some ⟨gg, 0, none⟩) (pre.length + 1) cap5)) := (keeps_grown HGW.out (own_block HO.out)).trans (KeepsOthers.setCell w5 ⟨w.heap.size, 0, none⟩ (.slice (some ⟨gg, 0, none⟩) (pre.length + 1) cap5))
    have hrow : ∀ r, (Value.slice Av pre.length cv).ownBlock = some r → w.heap.size + 3 ≤ r := fun r hr => (HO.out.lt r hr).1
    have hBW : Below w.heap.size W w5 := (Below.refl w.heap.size W).grown HGW.out hsW (fun r hr => by have := hrow r hr; omega)
    have hset : ∀ k, k ≠ w.heap.size → (w5.setCell ⟨w.heap.size, 0, none⟩ (.slice (some ⟨gg, 0, none⟩) (pre.length + 1) cap5)).heap[k]? = w5.heap[k]? := fun k hk => Below.heap_setCell w5 ⟨w.heap.size, 0, none⟩ _ k hk
    have hgrS : w5.grownBy (w5.setCell ⟨w.heap.size, 0, none⟩ (.slice (some ⟨gg, 0, none⟩) (pre.length + 1) cap5)) (some w.heap.size) := grown_setCell w5 ⟨w.heap.size, 0, none⟩ _
    have hownS : ∀ {e : TypeId} {s n : Nat} {u : Value} {us : List Value}, w5.ownsRow (w.heap.size + 3) e s u n us → (w5.setCell ⟨w.heap.size, 0, none⟩ (.slice (some ⟨gg, 0, none⟩) (pre.length + 1) cap5)).ownsRow (w.heap.size + 3) e s u n us := fun h => h.kept hgrS (by
      rcases hq : (Value.ownBlock _ : Option Nat) with _ | r
      · exact .inl rfl
      · exact .inr (by have := (h.lt r hq).1; intro e; injection e with e; omega))
    have hat9 : ∀ q, (Value.slice (some ⟨gg, 0, none⟩) (pre.length + 1) cap5).ownBlock = some q → (Value.slice Av pre.length cv).ownBlock = some q ∨ wk.heap.size ≤ q := fun q hq => by
      have e9 : gg = q := by injection hq
      subst e9
      rcases HAT5.out with h | h
      · exact .inl h
      · exact .inr (by omega)
    refine ⟨hKO.from _, ⟨hBW.setCell (p := ⟨w.heap.size, 0, none⟩) (Nat.le_refl _) _, ?_, ?_⟩, ⟨(.slice (some ⟨gg, 0, none⟩) (pre.length + 1) cap5), (fun j => if j = pre.length then .slice Ax mx cax else outs j), HB65.out.set _, ?_, ?_⟩, hB.trans (hBW.setCell (p := ⟨w.heap.size, 0, none⟩) (Nat.le_refl _) _), ?_⟩
    · rw [hset _ (by omega)]; exact HGW.out.block _ (by omega) (fun e => by have := hrow _ e.symm; omega)
    · rw [hset _ (by omega)]; exact HGW.out.block _ (by omega) (fun e => by have := hrow _ e.symm; omega)
    · have h := hownS HO5.out
      have e : (List.range (pre ++ [x]).length).map (fun j => if j = pre.length then Value.slice Ax mx cax else outs j) = (List.range pre.length).map outs ++ [.slice Ax mx cax] := by
        rw [List.length_append, List.length_cons, List.length_nil, List.range_succ, List.map_append]
        congr 1
        · apply List.map_congr_left
          intro j hj
          have := List.mem_range.1 hj
          rw [if_neg (by omega)]
        · simp
      rw [e, List.length_append]
      exact h
    · intro k hk
      rw [List.length_append, List.length_cons, List.length_nil] at hk
      by_cases ek : k = pre.length
      · subst ek
        have eg : (pre ++ [x]).getD pre.length 0 = x := by rw [List.getD_eq_getElem?_getD, List.getElem?_append_right (Nat.le_refl _)]; simp
        rw [eg]
        dsimp only
        rw [if_pos rfl]
        exact (HPX.out.grown HOK.out (by decide) HG5.out hat9).set hgrS (by omega)
      · have hkl : k < pre.length := by omega
        have eg : (pre ++ [x]).getD k 0 = pre.getD k 0 := by rw [List.getD_eq_getElem?_getD, List.getElem?_append_left hkl, List.getD_eq_getElem?_getD]
        rw [eg]
        dsimp only
        rw [if_neg ek]
        exact ((HC.out k hkl).grown HO.out (by decide) HGW.out (fun q hq => by
          rcases hat9 q hq with h | h
          · exact .inl h
          · have := HBK.out.size; exact .inr (by omega))).set hgrS (by omega)
    · have := HGW.out.size
      show _ ≤ (w5.setCell ⟨w.heap.size, 0, none⟩ (.slice (some ⟨gg, 0, none⟩) (pre.length + 1) cap5)).heap.size
      have e : (w5.setCell ⟨w.heap.size, 0, none⟩ (.slice (some ⟨gg, 0, none⟩) (pre.length + 1) cap5)).heap.size = w5.heap.size := by simp [World.setCell]
      rw [e]; omega
  case done =>
    rintro D ys W hD rfl ⟨hI, hB, hn1⟩ hK
    obtain ⟨v, outs, b6, ho, hc⟩ := hI
    rw [upN_length] at ho hc
    obtain ⟨Av, cv, rfl⟩ := own_slice ho
    have k6 := b6.cell
    have HO := Lib.hid ho
    have HC := Lib.hid hc
    clear ho hc
    gi_wp2
    refine ⟨by simp, .inl ⟨_, _, rfl, run_takeDeferred hK, ?_⟩⟩
    have hgp := grownBy_putObj' W D (.deferred none)
    have hrp : ∀ r, some D = some r → 0 ≤ r ∧ ∃ o : Obj, W.heap[r]? = some o ∧ o.isCells = false := fun r e => by cases e; exact ⟨Nat.zero_le _, _, hK, rfl⟩
    refine ⟨_, results_tmp2 rfl _ _ _, .slice Av (chQ len z) cv, outs, rfl, ?_, fun k hk => ?_, hB.trans (belowK_b (w := w) (Nat.le_refl _) W D _ _ (by omega) hK rfl rfl)⟩
    · rw [← HLL.out]; exact own_base (own_from (B := 0) HO.out hgp hrp) (by omega)
    · rw [← HLL.out] at hk
      have g1 := HC.out k hk
      rw [upN_get hk] at g1
      exact (g1.from (B := 0) hgp hrp).stms.mono fun q hq => hq.2
  case stop =>
    rintro D c pre W _ _ h _
    exact h.elim
end Go.Proofs.YtgbhaaongmlpkaaGreatDoor
namespace Go.Proofs.YtgbhaaongmlpkaaGreatDoor
open Go.RowKit Go.Shelf Num

def btsZ (L : List Stm) (zi : Int) : Int := if 1 ≤ zi ∧ zi ≤ 256 then (if L.length ≤ 256 then 0 else 3) else 2
def btsN (L : List Stm) (zi : Int) : Nat := if btsZ L zi = 0 then chQ L.length zi.toNat else 0
/-- What Batches gives: as many parts, and the error. -/
def BtsQ (L : List Stm) (zi : Int) (w : World) (e : Ending) (w' : World) : Prop := ∃ (A : Option Addr) (c : Nat) (outs : Nat → Value), e = .returned (.tuple #[.slice A (btsN L zi) c, .int .i64 (btsZ L zi)]) ∧ (∀ k, k < btsN L zi → ∃ g cap, A = some ⟨g, 0, none⟩ ∧ cap = c ∧ g < w'.heap.size ∧ w'.cell? ⟨g, k, none⟩ = some (outs k)) ∧ (∀ k, k < btsN L zi → StmsAt w' (· < w'.heap.size) (outs k) (partL L zi.toNat k)) ∧ Below w.heap.size w w'
theorem chQ_le {len z : Nat} (hz : 1 ≤ z) (hl : len ≤ 256) : chQ len z ≤ 256 := by
  unfold chQ
  have h2 : (len + z - 1) / z ≤ len := by
    rcases Nat.eq_zero_or_pos len with h0 | h0
    · subst h0; rw [Nat.div_eq_of_lt (by omega)]; omega
    · exact Nat.div_le_of_le_mul (by have := Nat.mul_le_mul_left len hz; have h5 : z * len = len + (z - 1) * len := by rw [Nat.sub_mul, Nat.one_mul]; have := Nat.mul_le_mul_right len hz; omega
                                     have h6 := Nat.mul_le_mul_left (z - 1) h0; omega)
  omega
theorem btsN_le (L : List Stm) (zi : Int) : btsN L zi ≤ 256 := by
  unfold btsN btsZ
  by_cases h : 1 ≤ zi ∧ zi ≤ 256
  · rw [if_pos h]
    by_cases h2 : L.length ≤ 256
    · rw [if_pos h2, if_pos rfl]; exact chQ_le (by omega) h2
    · rw [if_neg h2, if_neg (by decide)]; exact Nat.zero_le _
  · rw [if_neg h, if_neg (by decide)]; exact Nat.zero_le _
theorem BtsQ.err {L : List Stm} {zi z : Int} {w w' : World} (h : btsZ L zi = z) (h0 : z ≠ 0) (hb : Below w.heap.size w w') : BtsQ L zi w (.returned (.tuple #[.slice none 0 0, .int .i64 z])) w' := by
  have hn : btsN L zi = 0 := by unfold btsN; rw [if_neg (by rw [h]; exact h0)]
  exact ⟨none, 0, fun _ => undef, by rw [hn, h], fun k hk => absurd hk (by rw [hn]; exact Nat.not_lt_zero k), fun k hk => absurd hk (by rw [hn]; exact Nat.not_lt_zero k), hb⟩
theorem BatQ.bts {L : List Stm} {z : Nat} {w w' : World} {e : Ending} (h1 : 1 ≤ z) (h2 : z ≤ 256) (hL : L.length ≤ 256) (h : BatQ L z w e w') : BtsQ L (z : Int) w e w' := by
  obtain ⟨v, outs, rfl, ho, hs, hb⟩ := h
  have hz0 : btsZ L (z : Int) = 0 := by unfold btsZ; rw [if_pos (by omega), if_pos hL]
  have hn : btsN L (z : Int) = chQ L.length z := by unfold btsN; rw [if_pos hz0]; rfl
  have hv : ∃ A c, v = .slice A (chQ L.length z) c := own_slice ho
  obtain ⟨A, c, rfl⟩ := hv
  refine ⟨A, c, outs, by rw [hn, hz0], fun k hk => ?_, fun k hk => by rw [hn] at hk; exact hs k hk, hb⟩
  rw [hn] at hk
  obtain ⟨g, cap, hv, hg1, hg2⟩ := World.ownsRow.form ho (by omega)
  injection hv with e1 e2 e3
  subst e1 e3
  exact ⟨g, c, rfl, rfl, hg2, own_cell ho k _ (by rw [List.getElem?_map, List.getElem?_range hk]; rfl)⟩
set_option maxRecDepth 100000 in
set_option maxHeartbeats 1000000 in
theorem o_BatchesQ (zi : Int) (A : Option Addr) (n c : Nat) (L : List Stm) (S : Nat → Prop) (w : World) (hv : StmsAt w S (.slice A n c) L) (hS : ∀ b, S b → b < w.heap.size) (hw : 0 < w.heap.size) (hL : L.length ≤ 1000) (hok : ∀ s ∈ L, StmOk s ∧ ∀ t ∈ s.cond, t.args.length ≤ 1000000) :
    Calls Tryz.prog 13 #[.slice A n c, .int .i64 zi] w (BtsQ L zi w) := by
  obtain ⟨A', n', c', he, hn, hnc, hc⟩ := hv
  injection he with e1 e2 e3
  subst e1 e2 e3
  by_cases h : 1 ≤ zi ∧ zi ≤ 256
  · by_cases h2 : L.length ≤ 256
    · obtain ⟨z, rfl⟩ : ∃ z : Nat, zi = (z : Int) := ⟨zi.toNat, by omega⟩
      have hx : ∃ b off, (0 < n → A = some ⟨b, off, none⟩) ∧ (0 < n → S b) ∧ b < w.heap.size ∧ ∀ k, k < n → CellAt w S b (off + k * 6) (stmL L k) := by
        rcases Nat.eq_zero_or_pos n with h0 | h0
        · exact ⟨0, 0, fun h => absurd h (by omega), fun h => absurd h (by omega), hw, fun k hk => absurd hk (by omega)⟩
        · obtain ⟨b, off, hA, hb, hcc⟩ := hc h0
          exact ⟨b, off, fun _ => hA, fun _ => hb, hS b hb, hcc⟩
      obtain ⟨b, off, hA, hb, hb2, hcc⟩ := hx
      have hS2 : ∀ q, (S q ∨ q = b) → q < w.heap.size := fun q hq => by
        rcases hq with hq | hq
        · exact hS q hq
        · subst hq; exact hb2
      refine (callsIn_wide.1 (o_BatchesS_in A b off n c z L (fun q => S q ∨ q = b) w (by omega) (by omega) hn (by omega) hnc hA (.inr rfl) hS2 (fun i hi => ?_) hok)).mono fun e w' hq => hq.bts (by omega) (by omega) h2
      obtain ⟨u, x1, x2⟩ := hcc i hi
      exact ⟨u, x1, x2.mono fun q hq => .inl hq⟩
    · have HQ := Lib.hid (show btsZ L zi = 3 by unfold btsZ; rw [if_pos h, if_neg h2])
      have z1 : (256 : Int) < (n : Int) := by omega
      have hin := o_In zi 1 256
      rw [decide_eq_true h] at hin
      have HIN := Lib.hid hin
      clear hin hc hok hn hS
      go_enter Tryz.func13, Tryz.ntmps13
      go_wp2_with fail
      refine (HIN.out _).mono ?_
      rintro e w1 ⟨rfl, rfl⟩
      go_wp2_with fail
      go_ret2
      exact BtsQ.err HQ.out (by decide) (Below.refl _ _)
  · have HQ := Lib.hid (show btsZ L zi = 2 by unfold btsZ; rw [if_neg h])
    have hin := o_In zi 1 256
    rw [decide_eq_false h] at hin
    have HIN := Lib.hid hin
    clear hin hc hok hn hS
    go_enter Tryz.func13, Tryz.ntmps13
    go_wp2_with fail
    refine (HIN.out _).mono ?_
    rintro e w1 ⟨rfl, rfl⟩
    go_wp2_with fail
    go_ret2
    exact BtsQ.err HQ.out (by decide) (Below.refl _ _)
end Go.Proofs.YtgbhaaongmlpkaaGreatDoor
