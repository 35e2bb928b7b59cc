/- Words for memory: the world behind the sort. Plain: the order of the ranks, in the sort's words and in the reference's. Plain: the first error of a list of statements; what Sort gives. Contracts: copies of a list of statements. Words for memory: where the statements of a given list lie; rows that hold them in another order. -/
import Derived.Test.YtgbhaaongmlpkaaGreatDoorX30
set_option linter.unusedVariables false
set_option linter.unusedSimpArgs false
namespace Go.Proofs.YtgbhaaongmlpkaaGreatDoor
open Go.RowKit Num Go.Shelf Go.Sort Go.Lib

theorem srt_chg {enc : Nat → List Value} {w : World} {g m : Nat} {d : Array Nat} {os : Array Obj} : Chg w (sortWorldK enc 7 w g 0 m d os) (fun q => q = g) := by
  unfold sortWorldK putRowK putRow mapBlock grow Sort.ahead
  refine ⟨rfl, rfl, rfl, ?_, fun q hq hne => ?_⟩
  · simp
  · simp only [Array.getElem?_append, Array.size_modify, Array.getElem?_modify]
    rw [if_pos hq, if_neg (fun e => hne e.symm)]
/-- The order in which at most nineteen ranked statements stand behind the sort: their indexes in the input. -/
def srtP (seed : ByteArray) (L : List Stm) (n : Nat) : List Nat := insAll (ltOf fun i j => cmpS (rkAt seed L i) (rkAt seed L j)) [] (List.range n)
set_option maxRecDepth 100000 in
theorem o_srt (seed : ByteArray) (L : List Stm) (us : Nat → V3) (g n c B : Nat) (w : World) (hus : ∀ i, (us i).a.oneCell' = true ∧ (us i).c.oneCell' = true ∧ (us i).s.oneCell' = true) (hn : n = L.length) (h20 : n < 20) (hg : g < w.heap.size) (ho : StsOwn w B 78 7 (.slice (some ⟨g, 0, none⟩) n c) L us (rnkX seed L)) :
    Calls Tryz.prog 31 #[.slice (some ⟨g, 0, none⟩) n c, .func (.func 32) #[] #[]] w fun e w' => e = .returned (.tuple #[]) ∧
      (Chg w w' (fun q => q = g) ∧ ∃ P : Array Nat, P.toList = srtP seed L n ∧ HoldsK (rkEnc seed L us) 7 w' g 0 P) := by
  have hH := holds_of ho hn
  refine s_SortStableG (some ⟨g, 0, none⟩) n c _ w (fun w' => Chg w w' (fun q => q = g) ∧ ∃ P : Array Nat, P.toList = srtP seed L n ∧ HoldsK (rkEnc seed L us) 7 w' g 0 P) h20 ?_
  refine (o_ins seed L us g n c w hus hg (by omega) hH).mono ?_
  rintro e w' ⟨rfl, m, os, rfl⟩
  have hp := ins_sort (ltOf fun i j => cmpS (rkAt seed L i) (rkAt seed L j)) (Array.range n)
  rw [Array.size_range, Array.toList_range] at hp
  refine ⟨rfl, srt_chg, _, hp, holdsK_sortWorldK_c (rkEnc seed L us) 7 w g 0 (Array.range n) _ m os hH hg ?_⟩
  rw [← Array.length_toList, hp, Array.size_range]
  rw [insAll_len, List.length_range]; simp
end Go.Proofs.YtgbhaaongmlpkaaGreatDoor
namespace Go.Proofs.YtgbhaaongmlpkaaGreatDoor
open Go.RowKit Num Go.Shelf Go.Sort Go.Lib

def rkLt (seed : ByteArray) (L : List Stm) : Nat → Nat → Bool := fun i j => rLess (rkAt seed L i) (rkAt seed L j)
theorem ltOf_eq (seed : ByteArray) (L : List Stm) : (ltOf fun i j => cmpS (rkAt seed L i) (rkAt seed L j)) = rkLt seed L := by
  funext i j
  exact cmpS_neg (rkAt seed L i) (rkAt seed L j)
theorem insAll_snoc {α : Type} [Inhabited α] (lt : α → α → Bool) (x : α) : ∀ (r acc : List α), insAll lt acc (r ++ [x]) = insX lt (insAll lt acc r) x
  | [], acc => rfl
  | y :: r, acc => insAll_snoc lt x r (insX lt acc y)
/-- One round of the reference's insertion. -/
theorem srtP_succ (seed : ByteArray) (L : List Stm) (n : Nat) : srtP seed L (n + 1) = insX (rkLt seed L) (srtP seed L n) n := by
  unfold srtP
  rw [ltOf_eq, List.range_succ, insAll_snoc]
theorem srtP_len (seed : ByteArray) (L : List Stm) (n : Nat) : (srtP seed L n).length = n := by
  unfold srtP
  rw [insAll_len, List.length_range]; simp
theorem srtP_zero (seed : ByteArray) (L : List Stm) : srtP seed L 0 = [] := rfl
end Go.Proofs.YtgbhaaongmlpkaaGreatDoor
namespace Go.Proofs.YtgbhaaongmlpkaaGreatDoor
open Go.RowKit Num Go.Shelf Go.Sort Go.Lib

def frst : List Stm → Int
  | [] => 0
  | s :: r => if bytZ s = 0 then frst r else bytZ s
theorem frst_none : ∀ (L : List Stm), (∀ q, q < L.length → bytZ (stmL L q) = 0) → frst L = 0
  | [], _ => rfl
  | s :: r, h => by
    have h0 : bytZ s = 0 := h 0 (by simp)
    show (if bytZ s = 0 then frst r else bytZ s) = 0
    rw [if_pos h0]
    exact frst_none r fun q hq => h (q + 1) (by simpa using hq)
theorem frst_some : ∀ (L : List Stm) (k : Nat), k < L.length → (∀ q, q < k → bytZ (stmL L q) = 0) → bytZ (stmL L k) ≠ 0 → frst L = bytZ (stmL L k)
  | [], k, hk, _, _ => absurd hk (Nat.not_lt_zero k)
  | s :: r, 0, _, _, h => if_neg h
  | s :: r, k + 1, hk, hq, h => by
    have h0 : bytZ s = 0 := hq 0 (by omega)
    show (if bytZ s = 0 then frst r else bytZ s) = _
    rw [if_pos h0]
    exact frst_some r k (by simpa using hk) (fun q hq' => hq (q + 1) (by omega)) h
/-- What Sort gives: the error, and the list where there is none. -/
def srtZ (L : List Stm) : Int := if 256 < L.length then 3 else frst L
def srtL (seed : ByteArray) (L : List Stm) : List Stm := if srtZ L = 0 then (srtP seed L L.length).map (stmL L) else []
def SrtQ (seed : ByteArray) (L : List Stm) (w : World) (e : Ending) (w' : World) : Prop := ∃ v, e = .returned (.tuple #[v, .int .i64 (srtZ L)]) ∧ StmsAt w' (· < w'.heap.size) v (srtL seed L) ∧ Below w.heap.size w w'
end Go.Proofs.YtgbhaaongmlpkaaGreatDoor
namespace Go.Proofs.YtgbhaaongmlpkaaGreatDoor
open Go.RowKit Num

theorem infoSt : (Tryz.prog.info? 36).map (fun i => (i.zero, i.size, i.bytes)) = some (some (.agg #[.string ⟨#[]⟩, .int .i64 0, .int .i64 0, .slice none 0 0, .slice none 0 0, .slice none 0 0]), 6, 104) := by kernel_rfl
def ClsQ (L : List Stm) (w : World) (e : Ending) (w' : World) : Prop := ∃ v us, e = .returned v ∧ StsOwn w' w.heap.size 36 6 v L us (fun _ => []) ∧ Below w.heap.size w w'
set_option maxRecDepth 100000 in
set_option maxHeartbeats 2000000 in
theorem c_ListSG (A : Option Addr) (n c : Nat) (L : List Stm) (S : Nat → Prop) (w : World) (hv : StmsAt w S (.slice A n c) L) (hS : ∀ b, S b → b < w.heap.size) (hL : L.length ≤ 1000) (hok : ∀ s ∈ L, StmOk s ∧ ∀ t ∈ s.cond, t.args.length ≤ 1000000) :
    Calls Tryz.prog 28 #[.slice A n c, .func (.func 29) #[] #[]] w (ClsQ L w) := by
  obtain ⟨i0, hi, hz0, hz1, hz2⟩ := info_parts infoSt
  obtain ⟨A', n', c', he, hn, hnc, hT⟩ := id hv
  injection he with e1 e2 e3
  subst e1 e2 e3
  have HT := Lib.hid hT
  have HN := Lib.hid hn
  have HS := Lib.hid hS
  have HOK := Lib.hid hok
  have hn1 : n ≤ 1000 := by omega
  clear hv hT hn hS hok
  go_enter Tryz.func28, Tryz.ntmps28
  go_wp2_with fail
  go_loopw [5, 7, 10] (fun v5 v7 v10 wr => ∃ (k : Nat) (A5 : Option Addr) (c5 : Nat) (us : Nat → V3), k ≤ n ∧ v10 = .int .i64 (k : Int) ∧ v5 = .slice A5 k c5 ∧ StsOwn wr w.heap.size 36 6 v5 (L.take k) us (fun _ => []) ∧ Below w.heap.size w wr) (fun _ _ v10 _ => n - (intOf v10).toNat)
  case atStart => exact ⟨0, none, 0, fun _ => ⟨undef, undef, undef⟩, by omega, rfl, rfl, StsOwn.nil _ _ _ _ _ _, Below.refl _ _⟩
  case round =>
    obtain ⟨k, A5, c5, us, hk, rfl, rfl, ho, hb⟩ := hrel
    have HO := Lib.hid ho
    have HB := Lib.hid hb
    have hsz := hb.size
    clear ho hb
    by_cases hlt : k < n
    · obtain ⟨b, off, rfl, hbw, hc⟩ := HT.out (by omega)
      have hbw := HS.out b hbw
      have hkl : k < L.length := by have := HN.out; omega
      obtain ⟨⟨va, vc, vs⟩, hcl, hst⟩ := hc k hlt
      have hoks := HOK.out _ (stmL_mem hkl)
      have hsn := takeS_snoc L k hkl
      have htk : (L.take k).length = k := by rw [List.length_take]; omega
      have HSN := Lib.hid hsn
      have HTK := Lib.hid htk
      clear hsn htk hc
      obtain ⟨s, hs⟩ : ∃ s, stmL L k = s := ⟨_, rfl⟩
      rw [hs] at hcl hst hoks HSN
      dsimp only at hst
      obtain ⟨Aa, na, ca, Ac, nc, cc, As, ns, cs, rfl, rfl, rfl⟩ := stm_forms hst
      have e0 := (HB.out.cell (p := ⟨b, off + k * 6, none⟩) hbw).trans (hcl 0 (by decide))
      have e1 := (HB.out.cell (p := ⟨b, off + k * 6 + 1, none⟩) hbw).trans (hcl 1 (by decide))
      have e2 := (HB.out.cell (p := ⟨b, off + k * 6 + 2, none⟩) hbw).trans (hcl 2 (by decide))
      have e3 := (HB.out.cell (p := ⟨b, off + k * 6 + 3, none⟩) hbw).trans (hcl 3 (by decide))
      have e4 := (HB.out.cell (p := ⟨b, off + k * 6 + 4, none⟩) hbw).trans (hcl 4 (by decide))
      have e5 := (HB.out.cell (p := ⟨b, off + k * 6 + 5, none⟩) hbw).trans (hcl 5 (by decide))
      simp only [stmCell, List.getD_cons_zero, List.getD_cons_succ] at e0 e1 e2 e3 e4 e5
      have hal := below_al' wr (.cells #[.string s.resp, .int .i64 s.dep, .int .i64 s.day, .slice Aa na ca, .slice Ac nc cc, .slice As ns cs] 36)
      have hbA := HB.out.trans (hal.mono hsz)
      have hcp := c_StatementG s Aa Ac As na ca nc cc ns cs S (wr.alloc (.cells #[.string s.resp, .int .i64 s.dep, .int .i64 s.day, .slice Aa na ca, .slice Ac nc cc, .slice As ns cs] 36)) (hst.keep fun q hq => hbA.block q (HS.out q hq)) (fun q hq => Nat.lt_of_lt_of_le (HS.out q hq) hbA.size) hoks.1 hoks.2
      have HCP := Lib.hid hcp
      have HBA := Lib.hid hbA
      have HAL := Lib.hid hal
      clear hcl hst hs hcp hbA hal hoks
      have zi : (k : Int) < (n : Int) := by omega
      go_wp2_with fail
      refine HCP.out.mono ?_
      rintro e w2 ⟨A1, n1, c1, A2, n2, c2, A3, n3, c3, rfl, hst2, hb2⟩
      have ho2 : StsOwn w2 w.heap.size 36 6 (.slice A5 k c5) (L.take k) us (fun _ => []) := (HO.out.below HAL.out).below hb2
      have hrow := ho2.row
      rw [HTK.out] at hrow
      have hszw1 := HBA.out.size
      have hst3 : StmAt w2 (fun q => w.heap.size ≤ q ∧ q < w2.heap.size ∧ (Value.slice A5 k c5).ownBlock ≠ some q) (.slice A1 n1 c1) (.slice A2 n2 c2) (.slice A3 n3 c3) s := hst2.mono fun q hq => ⟨by omega, hq.2, fun e => by
        have l1 := ((HO.out.below HAL.out).row.lt q e).2
        omega⟩
      have hb3 := HBA.out.trans (hb2.mono hszw1)
      have hsz3 := hb3.size
      have HO2 := Lib.hid ho2
      have HST3 := Lib.hid hst3
      have HB3 := Lib.hid hb3
      have HROW := Lib.hid hrow
      clear hst2 hb2 ho2 hst3 hb3 e0 e1 e2 e3 e4 e5
      go_wp2_with (at_builtin; refine wpList_append_own_at _ rfl _ _ 28 rfl w.heap.size 36 i0 (.agg #[.string ⟨#[]⟩, .int .i64 0, .int .i64 0, .slice none 0 0, .slice none 0 0, .slice none 0 0]) 6 104 Tryz.underlying28 hi hz0 hz1 hz2 rfl (by decide) _ _ _ rfl (hrow.alloc _) ⟨w2.heap.size, 0, none⟩ 1 1 [.string s.resp, .int .i64 s.dep, .int .i64 s.day, .slice A1 n1 c1, .slice A2 n2 c2, .slice A3 n3 c3] rfl rfl (cell_six_new _ _ _ _ _ _ _ _) (by intro u hu; simp at hu; rcases hu with rfl | rfl | rfl | rfl | rfl | rfl <;> rfl) (by unfold maxLen; omega) (by omega) (by simp; omega) ?_)
      intro v2 w3 hown2 hgrow2 _ hat2
      have hp := StsOwn.push (s := s) (u := ⟨.slice A1 n1 c1, .slice A2 n2 c2, .slice A3 n3 c3⟩) (v' := v2) (o := .cells #[.string s.resp, .int .i64 s.dep, .int .i64 s.day, .slice A1 n1 c1, .slice A2 n2 c2, .slice A3 n3 c3] 36) HO2.out HST3.out (by
          rw [HTK.out]
          exact hown2) hgrow2 (by have := hat2; simpa using this)
      rw [← HSN.out] at hp
      obtain ⟨A6, c6, rfl⟩ := own_slice hown2
      have hb4 : Below w.heap.size w w3 := HB3.out.trans (((Below.refl w.heap.size w2).alloc hsz3 _).grown hgrow2 (by simp; omega) (fun g hg => (HROW.out.lt g hg).1))
      have HO3 := Lib.hid hp
      have HB4 := Lib.hid hb4
      clear hown2 hgrow2 hb4 hrow hp hat2
      go_wp2_with fail
      go_roundw
      case measure => simp [intOf]; omega
      case rel => exact ⟨k + 1, A6, c6, _, by omega, by go_num, rfl, HO3.out, HB4.out⟩
    · have hkn : k = n := by omega
      have zi : ¬ (k : Int) < (n : Int) := by omega
      have HKN := Lib.hid hkn
      clear hkn
      go_wp2_with fail
      go_ret
      refine ⟨_, us, rfl, ?_, HB.out⟩
      have e : L.take k = L := by rw [HKN.out, HN.out, List.take_length]
      have := HO.out
      rw [e] at this
      exact this
end Go.Proofs.YtgbhaaongmlpkaaGreatDoor
namespace Go.Proofs.YtgbhaaongmlpkaaGreatDoor
open Go.RowKit Num Go.Shelf Go.Sort Go.Lib

/-- A row of statements of the call's own whose lists lie anywhere. -/
theorem stms_row {W : World} {n₀ : Nat} {T : Nat → Prop} {t : TypeId} {v : Value} {L : List Stm} {us : Nat → V3} (h1 : W.ownsRow n₀ t 6 v L.length (stsC L us fun _ => [])) (h2 : ∀ k, k < L.length → StmAt W T (us k).a (us k).c (us k).s (stmL L k)) (hT : ∀ b, T b → b < W.heap.size) : StmsAt W (· < W.heap.size) v L := by
  rcases id h1.2 with ⟨rfl, h0⟩ | ⟨g, cap, cur, rfl, hB, hh, hnc, _⟩
  · exact ⟨none, 0, 0, rfl, h0.symm, Nat.le_refl _, fun hn => absurd hn (Nat.lt_irrefl 0)⟩
  · refine ⟨_, L.length, cap, rfl, rfl, hnc, fun hn => ⟨g, 0, rfl, (Array.getElem?_eq_some_iff.1 hh).1, fun k hk => ⟨us k, fun j hj => ?_, (h2 k hk).mono hT⟩⟩⟩
    rw [Nat.zero_add]
    have hget := flat_get (fun k => stmCell (stmL L k) (us k) ++ []) 6 (fun _ => rfl) L.length k j hk hj
    rw [List.append_nil] at hget
    have hl : j < (stmCell (stmL L k) (us k)).length := hj
    rw [List.getElem?_eq_getElem hl] at hget
    rw [own_cell h1 _ _ hget, List.getD_eq_getElem?_getD, List.getElem?_eq_getElem hl]; rfl
theorem stsC_take (L : List Stm) (us : Nat → V3) (ex : Nat → List Value) (k : Nat) (hk : k < L.length) : stsC (L.take (k + 1)) us ex = stsC (L.take k) us ex ++ (stmCell (stmL L k) (us k) ++ ex k) := by
  unfold stsC
  rw [List.length_take, List.length_take, Nat.min_eq_left (by omega), Nat.min_eq_left (by omega), List.range_succ, List.flatMap_append, List.flatMap_cons, List.flatMap_nil, List.append_nil, stmL_take _ _ _ (by omega)]
  congr 1
  refine flat_congr _ _ _ fun q hq => ?_
  rw [stmL_take _ _ _ (by omega), stmL_take _ _ _ (by omega)]
def nil3 : V3 := ⟨.slice none 0 0, .slice none 0 0, .slice none 0 0⟩
/-- The lists of each statement, and none beyond. -/
def totU (n : Nat) (us : Nat → V3) : Nat → V3 := fun k => if k < n then us k else nil3
theorem totU_at {n k : Nat} {us : Nat → V3} (h : k < n) : totU n us k = us k := if_pos h
theorem stm_one {w : World} {S : Nat → Prop} {va vc vs : Value} {s : Stm} (h : StmAt w S va vc vs s) : va.oneCell' = true ∧ vc.oneCell' = true ∧ vs.oneCell' = true := by
  obtain ⟨A1, n1, c1, A2, n2, c2, A3, n3, c3, rfl, rfl, rfl⟩ := stm_forms h
  exact ⟨rfl, rfl, rfl⟩
theorem totU_one {w : World} {S : Nat → Prop} {L : List Stm} {us : Nat → V3} (h : ∀ k, k < L.length → StmAt w S (us k).a (us k).c (us k).s (stmL L k)) (i : Nat) : (totU L.length us i).a.oneCell' = true ∧ (totU L.length us i).c.oneCell' = true ∧ (totU L.length us i).s.oneCell' = true := by
  by_cases hi : i < L.length
  · rw [totU_at hi]; exact stm_one (h i hi)
  · unfold totU; rw [if_neg hi]; exact ⟨rfl, rfl, rfl⟩
theorem stmCell_one {s : Stm} {u : V3} (h : u.a.oneCell' = true ∧ u.c.oneCell' = true ∧ u.s.oneCell' = true) : ∀ v ∈ stmCell s u, v.oneCell' = true := by
  intro v hv
  obtain ⟨a, b, d⟩ := h
  simp only [stmCell, List.mem_cons, List.not_mem_nil, or_false] at hv
  rcases hv with rfl | rfl | rfl | rfl | rfl | rfl <;> first | rfl | assumption
/-- Where the statements of a list lie. -/
def SrcAt (w : World) (S : Nat → Prop) (A : Option Addr) (L : List Stm) (us : Nat → V3) : Prop :=
  0 < L.length → ∃ b off, A = some ⟨b, off, none⟩ ∧ S b ∧ ∀ k, k < L.length → (∀ j, j < 6 → w.cell? ⟨b, off + k * 6 + j, none⟩ = some ((stmCell (stmL L k) (us k)).getD j undef)) ∧ StmAt w S (us k).a (us k).c (us k).s (stmL L k)
theorem StmsAt.src {w : World} {S : Nat → Prop} {v : Value} {L : List Stm} (h : StmsAt w S v L) : ∃ A c us, v = .slice A L.length c ∧ L.length ≤ c ∧ SrcAt w S A L us := by
  obtain ⟨A, n, c, rfl, rfl, h3, h4⟩ := h
  rcases Nat.eq_zero_or_pos L.length with h0 | h0
  · exact ⟨A, c, fun _ => nil3, rfl, h3, fun h => absurd h (by omega)⟩
  · obtain ⟨b, off, hA, hS, hc⟩ := h4 h0
    have hx : ∀ k, ∃ u : V3, k < L.length → (∀ j, j < 6 → w.cell? ⟨b, off + k * 6 + j, none⟩ = some ((stmCell (stmL L k) u).getD j undef)) ∧ StmAt w S u.a u.c u.s (stmL L k) := fun k => by
      by_cases hk : k < L.length
      · obtain ⟨u, x1, x2⟩ := hc k hk
        exact ⟨u, fun _ => ⟨x1, x2⟩⟩
      · exact ⟨nil3, fun h => absurd h hk⟩
    obtain ⟨us, hus⟩ := Classical.skolem.1 hx
    exact ⟨A, c, us, rfl, h3, fun _ => ⟨b, off, hA, hS, hus⟩⟩
/-! ### The order of the ranks -/
theorem insX_mem {α : Type} [Inhabited α] (lt : α → α → Bool) (X : List α) (x q : α) (h : q ∈ insX lt X x) : q = x ∨ q ∈ X := by
  unfold insX at h
  rcases List.mem_append.1 h with e | e
  · exact .inr (List.mem_of_mem_take e)
  · rcases List.mem_cons.1 e with e | e
    · exact .inl e
    · exact .inr (List.mem_of_mem_drop e)
theorem srtP_mem (seed : ByteArray) (L : List Stm) : ∀ (n q : Nat), q ∈ srtP seed L n → q < n
  | 0, q, h => by rw [srtP_zero] at h; cases h
  | n + 1, q, h => by
    rw [srtP_succ] at h
    rcases insX_mem _ _ _ _ h with e | e
    · omega
    · have := srtP_mem seed L n q e; omega
theorem stmL_map (L : List Stm) (P : List Nat) (k : Nat) (h : k < P.length) : stmL (P.map (stmL L)) k = stmL L (P.getD k 0) := by
  unfold stmL
  rw [List.getD_eq_getElem?_getD, List.getElem?_map, List.getElem?_eq_getElem h, List.getD_eq_getElem?_getD (l := P), List.getElem?_eq_getElem h]; rfl
theorem getD_mem0 {P : List Nat} {k : Nat} (h : k < P.length) : P.getD k 0 ∈ P := by
  rw [List.getD_eq_getElem?_getD, List.getElem?_eq_getElem h]; exact List.getElem_mem h
theorem holdsK_cell {seed : ByteArray} {L : List Stm} {us : Nat → V3} {w : World} {g : Nat} {P : Array Nat} (h : HoldsK (rkEnc seed L us) 7 w g 0 P) {k j : Nat} (hk : k < P.size) (hj : j < 7) : w.cell? ⟨g, k * 7 + j, none⟩ = some ((rkEnc seed L us (P.toList.getD k 0)).getD j undef) := by
  have h1 := (h (k * 7 + j) (by rw [size_flatK]; omega)).1
  rw [Nat.zero_add, get_flatK _ _ _ _ (by omega), show (k * 7 + j) / 7 = k by omega, show (k * 7 + j) % 7 = j by omega] at h1
  have e : P[k]! = P.toList.getD k 0 := by
    rw [getElem!_pos P k hk, List.getD_eq_getElem?_getD, List.getElem?_eq_getElem (by simpa using hk)]; simp
  have hl : j < (rkEnc seed L us P[k]!).length := by rw [rkEnc_len]; exact hj
  rw [h1, ← e, List.getD_eq_getElem?_getD, List.getElem?_eq_getElem hl, getElem!_pos (rkEnc seed L us P[k]!) j hl]; rfl
/-! ### Rows by a list of places -/
theorem fm_len {α : Type} (f : Nat → List α) (z : Nat) (hf : ∀ k, (f k).length = z) : ∀ P : List Nat, (P.flatMap f).length = P.length * z
  | [] => by simp
  | q :: P => by rw [List.flatMap_cons, List.length_append, fm_len f z hf P, hf, List.length_cons, Nat.succ_mul, Nat.add_comm]
theorem fm_get {α : Type} (f : Nat → List α) (z : Nat) (hf : ∀ k, (f k).length = z) : ∀ (P : List Nat) (k j : Nat), k < P.length → j < z → (P.flatMap f)[k * z + j]? = (f (P.getD k 0))[j]?
  | [], k, j, h, _ => absurd h (Nat.not_lt_zero k)
  | q :: P, 0, j, _, hj => by
    rw [List.flatMap_cons, Nat.zero_mul, Nat.zero_add, List.getElem?_append_left (by rw [hf]; exact hj)]; rfl
  | q :: P, k + 1, j, hk, hj => by
    rw [List.flatMap_cons, List.getElem?_append_right (by rw [hf, Nat.succ_mul]; omega), hf, show (k + 1) * z + j - z = k * z + j by rw [Nat.succ_mul]; omega, fm_get f z hf P k j (by simpa using hk) hj]; rfl
theorem fm_take {α : Type} (f : Nat → List α) (z : Nat) (hf : ∀ k, (f k).length = z) : ∀ (P : List Nat) (k : Nat), (P.flatMap f).take (k * z) = (P.take k).flatMap f
  | [], k => by simp
  | q :: P, 0 => by simp
  | q :: P, k + 1 => by
    rw [List.flatMap_cons, List.take_succ_cons, List.flatMap_cons, List.take_append, hf, List.take_of_length_le (by rw [hf, Nat.succ_mul]; omega), show (k + 1) * z - z = k * z by rw [Nat.succ_mul]; omega, fm_take f z hf P k]
theorem fm_drop {α : Type} (f : Nat → List α) (z : Nat) (hf : ∀ k, (f k).length = z) : ∀ (P : List Nat) (k : Nat), (P.flatMap f).drop (k * z) = (P.drop k).flatMap f
  | [], k => by simp
  | q :: P, 0 => by simp
  | q :: P, k + 1 => by
    rw [List.flatMap_cons, List.drop_succ_cons, List.drop_append, hf, List.drop_eq_nil_of_le (by rw [hf, Nat.succ_mul]; omega), show (k + 1) * z - z = k * z by rw [Nat.succ_mul]; omega, fm_drop f z hf P k, List.nil_append]
def rowO (L : List Stm) (us : Nat → V3) (P : List Nat) : List Value := P.flatMap fun q => stmCell (stmL L q) (us q)
def rowR (seed : ByteArray) (L : List Stm) (P : List Nat) : List Value := P.map fun q => Value.string (rkAt seed L q)
theorem rowO_len (L : List Stm) (us : Nat → V3) (P : List Nat) : (rowO L us P).length = P.length * 6 := fm_len _ 6 (fun _ => rfl) P
theorem rowO_snoc (L : List Stm) (us : Nat → V3) (P : List Nat) (q : Nat) : rowO L us (P ++ [q]) = rowO L us P ++ stmCell (stmL L q) (us q) := by
  unfold rowO; rw [List.flatMap_append, List.flatMap_cons, List.flatMap_nil, List.append_nil]
theorem rowO_one {w : World} {S : Nat → Prop} {L : List Stm} {us : Nat → V3} {P : List Nat} (h : ∀ q ∈ P, StmAt w S (us q).a (us q).c (us q).s (stmL L q)) : ∀ v ∈ rowO L us P, v.oneCell' = true := by
  intro v hv
  obtain ⟨q, hq, hv⟩ := List.mem_flatMap.1 hv
  exact stmCell_one (stm_one (h q hq)) v hv
theorem rowR_one (seed : ByteArray) (L : List Stm) (P : List Nat) : ∀ v ∈ rowR seed L P, v.oneCell' = true := by
  intro v hv
  obtain ⟨q, hq, rfl⟩ := List.mem_map.1 hv
  rfl
/-- A row of statements by a list of places. -/
theorem stms_rowP {W : World} {n₀ : Nat} {T : Nat → Prop} {t : TypeId} {v : Value} {L : List Stm} {us : Nat → V3} {P : List Nat} (h1 : W.ownsRow n₀ t 6 v P.length (rowO L us P)) (h2 : ∀ q ∈ P, StmAt W T (us q).a (us q).c (us q).s (stmL L q)) (hT : ∀ b, T b → b < W.heap.size) : StmsAt W (· < W.heap.size) v (P.map (stmL L)) := by
  rcases id h1.2 with ⟨rfl, h0⟩ | ⟨g, cap, cur, rfl, hB, hh, hnc, _⟩
  · exact ⟨none, 0, 0, rfl, by rw [List.length_map]; exact h0.symm, Nat.le_refl _, fun hn => absurd hn (Nat.lt_irrefl 0)⟩
  · refine ⟨_, P.length, cap, rfl, by rw [List.length_map], hnc, fun hn => ⟨g, 0, rfl, (Array.getElem?_eq_some_iff.1 hh).1, fun k hk => ⟨us (P.getD k 0), fun j hj => ?_, ?_⟩⟩⟩
    · rw [Nat.zero_add, stmL_map L P k hk]
      have hget := fm_get (fun q => stmCell (stmL L q) (us q)) 6 (fun _ => rfl) P k j hk hj
      have hl : j < (stmCell (stmL L (P.getD k 0)) (us (P.getD k 0))).length := hj
      rw [List.getElem?_eq_getElem hl] at hget
      rw [own_cell h1 _ _ hget, List.getD_eq_getElem?_getD (l := stmCell _ _), List.getElem?_eq_getElem hl]; rfl
    · rw [stmL_map L P k hk]
      exact (h2 _ (getD_mem0 hk)).mono hT
/-- The same, with the blocks named. -/
theorem stms_rowS {W : World} {n₀ : Nat} {T : Nat → Prop} {t : TypeId} {v : Value} {L : List Stm} {us : Nat → V3} {P : List Nat} (h1 : W.ownsRow n₀ t 6 v P.length (rowO L us P)) (h2 : ∀ q ∈ P, StmAt W T (us q).a (us q).c (us q).s (stmL L q)) : StmsAt W (fun b => T b ∨ v.ownBlock = some b) v (P.map (stmL L)) := by
  rcases id h1.2 with ⟨rfl, h0⟩ | ⟨g, cap, cur, rfl, hB, hh, hnc, _⟩
  · exact ⟨none, 0, 0, rfl, by rw [List.length_map]; exact h0.symm, Nat.le_refl _, fun hn => absurd hn (Nat.lt_irrefl 0)⟩
  · refine ⟨_, P.length, cap, rfl, by rw [List.length_map], hnc, fun hn => ⟨g, 0, rfl, .inr rfl, fun k hk => ⟨us (P.getD k 0), fun j hj => ?_, ?_⟩⟩⟩
    · rw [Nat.zero_add, stmL_map L P k hk]
      have hget := fm_get (fun q => stmCell (stmL L q) (us q)) 6 (fun _ => rfl) P k j hk hj
      have hl : j < (stmCell (stmL L (P.getD k 0)) (us (P.getD k 0))).length := hj
      rw [List.getElem?_eq_getElem hl] at hget
      rw [own_cell h1 _ _ hget, List.getD_eq_getElem?_getD (l := stmCell _ _), List.getElem?_eq_getElem hl]; rfl
    · rw [stmL_map L P k hk]
      exact (h2 _ (getD_mem0 hk)).mono fun b hb => .inl hb
theorem Reads.head {w : World} {B size n k : Nat} {A : Option Addr} {xs : List Value} (h : Reads w B size A n xs) (hk : k ≤ n) : Reads w B size A k (xs.take (k * size)) := by
  refine ⟨by rw [List.length_take, h.1]; exact Nat.min_eq_left (Nat.mul_le_mul_right size hk), fun h0 => ?_⟩
  obtain ⟨ad, hA, hb, hc⟩ := h.2 (by omega)
  refine ⟨ad, hA, hb, fun j u hu => ?_⟩
  rw [List.getElem?_take] at hu
  split at hu
  · exact hc j u hu
  · cases hu
end Go.Proofs.YtgbhaaongmlpkaaGreatDoor
