/- Contracts: order.rank. Contracts: cmp.Compare of texts; order.compare. The library's contract of insertionSortCmpFunc at this translation's numbers. Contracts: the reference's Sorted. Contracts: what the library's insertion sort asks of order.compare. Words for memory: a row of ranked statements holds what the sort asks for. Contracts: slices.SortStableFunc of fewer than twenty: the insertion sort. Plain: the library's insertion sort is insertion, one after the other, behind all that is not greater. No program stands in it. -/
import Derived.Test.YtgbhaaongmlpkaaGreatDoorX29
import Derived.Shelf.SlSortCmp.InsertionK
import Derived.Sort.Defs
set_option linter.unusedVariables false
set_option linter.unusedSimpArgs false
namespace Go.Proofs.YtgbhaaongmlpkaaGreatDoor
open Go.RowKit Num

theorem infoRk : (Tryz.prog.info? 78).map (fun i => (i.zero, i.size, i.bytes)) = some (some (.agg #[.string ⟨#[]⟩, .int .i64 0, .int .i64 0, .slice none 0 0, .slice none 0 0, .slice none 0 0, .string ⟨#[]⟩]), 7, 120) := by kernel_rfl
def rnkX (seed : ByteArray) (L : List Stm) : Nat → List Value := fun k => [.string (rnkS seed (stmL L k))]
/-- All ranks, or the first error. -/
def RklQ (seed : ByteArray) (L : List Stm) (w : World) (e : Ending) (w' : World) : Prop :=
  ((∃ k, k < L.length ∧ (∀ q, q < k → bytZ (stmL L q) = 0) ∧ bytZ (stmL L k) ≠ 0 ∧ e = .returned (.tuple #[.slice none 0 0, .int .i64 (bytZ (stmL L k))])) ∨
    ((∀ q, q < L.length → bytZ (stmL L q) = 0) ∧ ∃ v us, e = .returned (.tuple #[v, .int .i64 0]) ∧ StsOwn w' w.heap.size 78 7 v L us (rnkX seed L))) ∧ Below w.heap.size w w'
theorem cell_seven_new (w : World) (a b c d e f g : Value) (t : TypeId) : ∀ j u, [a, b, c, d, e, f, g][j]? = some u → (w.alloc (.cells #[a, b, c, d, e, f, g] t)).cell? ((⟨w.heap.size, 0, none⟩ : Addr).add j) = some u := by
  intro j u hj
  have ha : (⟨w.heap.size, 0, none⟩ : Addr).add j = ⟨w.heap.size, j, none⟩ := by unfold Addr.add; split <;> simp_all
  rw [ha, World.cell?_alloc_new]
  simpa using hj
theorem stm_forms {w : World} {S : Nat → Prop} {va vc vs : Value} {s : Stm} (h : StmAt w S va vc vs s) : ∃ Aa na ca Ac nc cc As ns cs, va = .slice Aa na ca ∧ vc = .slice Ac nc cc ∧ vs = .slice As ns cs := by
  obtain ⟨A1, n1, c1, e1, -⟩ := id h.aa
  obtain ⟨A2, n2, c2, e2, -⟩ := id h.cc
  obtain ⟨A3, n3, c3, e3, -⟩ := id h.ss
  exact ⟨A1, n1, c1, A2, n2, c2, A3, n3, c3, e1, e2, e3⟩
set_option maxRecDepth 100000 in
set_option maxHeartbeats 2000000 in
theorem o_rank (seed : ByteArray) (A : Option Addr) (n c : Nat) (L : List Stm) (S : Nat → Prop) (w : World) (hsd : seed.size ≤ 1000) (hv : StmsAt w S (.slice A n c) L) (hS : ∀ b, S b → b < w.heap.size) (hL : L.length ≤ 1000) (hok : ∀ s ∈ L, StmOk s ∧ ∀ t ∈ s.cond, t.args.length ≤ 1000000) (hl : LibOk w) (hsp : SpcOk w) :
    Calls Tryz.prog 30 #[.string seed, .slice A n c] w (RklQ seed L w) := by
  obtain ⟨i0, hi, hz0, hz1, hz2⟩ := info_parts infoRk
  obtain ⟨A', n', c', he, hn, hnc, hT⟩ := id hv
  injection he with e1 e2 e3
  subst e1 e2 e3
  have HT := Lib.hid hT
  have HN := Lib.hid hn
  have HS := Lib.hid hS
  have HOK := Lib.hid hok
  have HL := Lib.hid hl
  have HSP := Lib.hid hsp
  have hn1 : n ≤ 1000 := by omega
  clear hv hT hn hS hok hl hsp
  go_enter Tryz.func30, Tryz.ntmps30
  go_wp2_with fail
  go_loopw [6, 8, 9, 10, 13] (fun v6 v8 v9 v10 v13 wr => ∃ (k : Nat) (A5 : Option Addr) (c5 : Nat) (us : Nat → V3), k ≤ n ∧ v13 = .int .i64 (k : Int) ∧ v6 = .slice A5 k c5 ∧ StsOwn wr w.heap.size 78 7 v6 (L.take k) us (rnkX seed L) ∧ (∀ q, q < k → bytZ (stmL L q) = 0) ∧ Below w.heap.size w wr) (fun _ _ _ _ v13 _ => n - (intOf v13).toNat)
  case atStart => exact ⟨0, none, 0, fun _ => ⟨undef, undef, undef⟩, by omega, rfl, rfl, StsOwn.nil _ _ _ _ _ _, (fun q hq => absurd hq (by omega)), Below.refl _ _⟩
  case round =>
    obtain ⟨k, A5, c5, us, hk, rfl, rfl, ho, hzq, hb⟩ := hrel
    have HO := Lib.hid ho
    have HB := Lib.hid hb
    have HZQ := Lib.hid hzq
    have hsz := hb.size
    clear ho hb hzq
    by_cases hlt : k < n
    · obtain ⟨b, off, rfl, hbw, hc⟩ := HT.out (by omega)
      have hbw := HS.out b hbw
      have hkl : k < L.length := by have := HN.out; omega
      obtain ⟨⟨va, vc, vs⟩, hcl, hst⟩ := hc k hlt
      have hoks := HOK.out _ (stmL_mem hkl)
      have hsn := takeS_snoc L k hkl
      have htk : (L.take k).length = k := by rw [List.length_take]; omega
      have HSN := Lib.hid hsn
      have HTK := Lib.hid htk
      have HKL := Lib.hid hkl
      clear hsn htk hc
      obtain ⟨s, hs⟩ : ∃ s, stmL L k = s := ⟨_, rfl⟩
      rw [hs] at hcl hst hoks HSN
      dsimp only at hst
      obtain ⟨Aa, na, ca, Ac, nc, cc, As, ns, cs, rfl, rfl, rfl⟩ := stm_forms hst
      have HSS := Lib.hid hs
      have e0 := (HB.out.cell (p := ⟨b, off + k * 6, none⟩) hbw).trans (hcl 0 (by decide))
      have e1 := (HB.out.cell (p := ⟨b, off + k * 6 + 1, none⟩) hbw).trans (hcl 1 (by decide))
      have e2 := (HB.out.cell (p := ⟨b, off + k * 6 + 2, none⟩) hbw).trans (hcl 2 (by decide))
      have e3 := (HB.out.cell (p := ⟨b, off + k * 6 + 3, none⟩) hbw).trans (hcl 3 (by decide))
      have e4 := (HB.out.cell (p := ⟨b, off + k * 6 + 4, none⟩) hbw).trans (hcl 4 (by decide))
      have e5 := (HB.out.cell (p := ⟨b, off + k * 6 + 5, none⟩) hbw).trans (hcl 5 (by decide))
      simp only [stmCell, List.getD_cons_zero, List.getD_cons_succ] at e0 e1 e2 e3 e4 e5
      have hal := below_al' wr (.cells #[.string s.resp, .int .i64 s.dep, .int .i64 s.day, .slice Aa na ca, .slice Ac nc cc, .slice As ns cs] 36)
      have hbA := HB.out.trans (hal.mono hsz)
      have hst' := fun (W : World) (hW : Below w.heap.size w W) => hst.keep fun q hq => hW.block q (HS.out q hq)
      have hrk := o_RankS seed s Aa Ac As na ca nc cc ns cs S _ hsd (hst' _ hbA) (fun q hq => Nat.lt_of_lt_of_le (HS.out q hq) hbA.size) hoks.1 (HL.out.later hbA) (spc_below HSP.out (by have := HL.out.size; show 2 < _; omega) hbA)
      have hbk : Blk (wr.alloc (.cells #[.string s.resp, .int .i64 s.dep, .int .i64 s.day, .slice Aa na ca, .slice Ac nc cc, .slice As ns cs] 36)) wr.heap.size 36 #[.string s.resp, .int .i64 s.dep, .int .i64 s.day, .slice Aa na ca, .slice Ac nc cc, .slice As ns cs] := Blk.new wr _ _
      have HRK := Lib.hid hrk
      have HBA := Lib.hid hbA
      have HAL := Lib.hid hal
      have HBK := Lib.hid hbk
      have HST := Lib.hid hst'
      have HOS := Lib.hid hoks
      clear hcl hst hs hrk hbA hal hbk hst' hoks
      have zi : (k : Int) < (n : Int) := by omega
      go_wp2_with fail
      refine HRK.out.mono ?_
      rintro e w1 ⟨rfl, hb1⟩
      have HB1 := Lib.hid hb1
      have HBW := Lib.hid (HBA.out.trans (hb1.mono HBA.out.size))
      have kb := HBK.out.below' hb1 HBK.out.lt
      have x0 := (kb.cell 0).trans (show _ = some (Value.string s.resp) from rfl)
      have x1 := (kb.cell 1).trans (show _ = some (Value.int .i64 s.dep) from rfl)
      have x2 := (kb.cell 2).trans (show _ = some (Value.int .i64 s.day) from rfl)
      have x3 := (kb.cell 3).trans (show _ = some (Value.slice Aa na ca) from rfl)
      have x4 := (kb.cell 4).trans (show _ = some (Value.slice Ac nc cc) from rfl)
      have x5 := (kb.cell 5).trans (show _ = some (Value.slice As ns cs) from rfl)
      clear hb1 kb e0 e1 e2 e3 e4 e5
      obtain ⟨r, hr⟩ : ∃ r, rnkS seed s = r := ⟨_, rfl⟩
      rw [hr]
      have HR := Lib.hid hr
      obtain ⟨z, hz⟩ : ∃ z, bytZ s = z := ⟨_, rfl⟩
      have hzi := bytZ_in s
      rw [hz] at hzi ⊢
      have HZ := Lib.hid hz
      clear hr hz
      rcases hzi with rfl | rfl | rfl
      · go_wp2_with fail
        refine (c_StatementG s Aa Ac As na ca nc cc ns cs S w1 (HST.out _ HBW.out) (fun q hq => Nat.lt_of_lt_of_le (HS.out q hq) HBW.out.size) HOS.out.1 HOS.out.2).mono ?_
        rintro e w2 ⟨A1, n1, c1, A2, n2, c2, A3, n3, c3, rfl, hst2, hb2⟩
        have ho2 : StsOwn w2 w.heap.size 78 7 (.slice A5 k c5) (L.take k) us (rnkX seed L) := ((HO.out.below HAL.out).below HB1.out).below hb2
        have hrow := ho2.row
        rw [HTK.out] at hrow
        have hszw1 := HBW.out.size
        have hst3 : StmAt w2 (fun q => w.heap.size ≤ q ∧ q < w2.heap.size ∧ (Value.slice A5 k c5).ownBlock ≠ some q) (.slice A1 n1 c1) (.slice A2 n2 c2) (.slice A3 n3 c3) s := hst2.mono fun q hq => ⟨by omega, hq.2, fun e => by
          have l1 := (((HO.out.below HAL.out).below HB1.out).row.lt q e).2
          omega⟩
        have hb3 := HBW.out.trans (hb2.mono hszw1)
        have hsz3 := hb3.size
        have HO2 := Lib.hid ho2
        have HST3 := Lib.hid hst3
        have HB3 := Lib.hid hb3
        have HROW := Lib.hid hrow
        clear hst2 hb2 ho2 hst3 hb3 x0 x1 x2 x3 x4 x5
        go_wp2_with (at_builtin; refine wpList_append_own_at _ rfl _ _ 73 rfl w.heap.size 78 i0 (.agg #[.string ⟨#[]⟩, .int .i64 0, .int .i64 0, .slice none 0 0, .slice none 0 0, .slice none 0 0, .string ⟨#[]⟩]) 7 120 Tryz.underlying73 hi hz0 hz1 hz2 rfl (by decide) _ _ _ rfl (hrow.alloc _) ⟨w2.heap.size, 0, none⟩ 1 1 [.string s.resp, .int .i64 s.dep, .int .i64 s.day, .slice A1 n1 c1, .slice A2 n2 c2, .slice A3 n3 c3, .string r] rfl rfl (cell_seven_new _ _ _ _ _ _ _ _ _) (by intro u hu; simp at hu; rcases hu with rfl | rfl | rfl | rfl | rfl | rfl | rfl <;> rfl) (by unfold maxLen; omega) (by omega) (by simp; omega) ?_)
        intro v2 w3 hown2 hgrow2 _ hat2
        have hp := StsOwn.push (s := s) (u := ⟨.slice A1 n1 c1, .slice A2 n2 c2, .slice A3 n3 c3⟩) (v' := v2) (o := .cells #[.string s.resp, .int .i64 s.dep, .int .i64 s.day, .slice A1 n1 c1, .slice A2 n2 c2, .slice A3 n3 c3, .string r] 78) HO2.out HST3.out (by
          have hrr : rnkX seed L k = [.string r] := by unfold rnkX; rw [HSS.out, HR.out]
          rw [HTK.out, hrr]
          exact hown2) hgrow2 (by have := hat2; simpa using this)
        rw [← HSN.out] at hp
        obtain ⟨A6, c6, rfl⟩ := own_slice hown2
        have hb4 : Below w.heap.size w w3 := HB3.out.trans (((Below.refl w.heap.size w2).alloc hsz3 _).grown hgrow2 (by simp; omega) (fun g hg => (HROW.out.lt g hg).1))
        have HO3 := Lib.hid hp
        have HB4 := Lib.hid hb4
        clear hown2 hgrow2 hb4 hrow hp hat2
        go_wp2_with fail
        go_roundw
        case measure => simp [intOf]; omega
        case rel => exact ⟨k + 1, A6, c6, _, by omega, by go_num, rfl, HO3.out, fun q hq => by
            by_cases e : q < k
            · exact HZQ.out q e
            · obtain rfl : q = k := by omega
              rw [HSS.out]; exact HZ.out, HB4.out⟩
      · go_wp2_with fail
        go_ret2
        exact ⟨.inl ⟨k, HKL.out, HZQ.out, by rw [HSS.out, HZ.out]; decide, by rw [HSS.out, HZ.out]; rfl⟩, HBW.out⟩
      · go_wp2_with fail
        go_ret2
        exact ⟨.inl ⟨k, HKL.out, HZQ.out, by rw [HSS.out, HZ.out]; decide, by rw [HSS.out, HZ.out]; rfl⟩, HBW.out⟩
    · have hkn : k = n := by omega
      have zi : ¬ (k : Int) < (n : Int) := by omega
      have HKN := Lib.hid hkn
      clear hkn
      go_wp2_with fail
      go_ret2
      refine ⟨.inr ⟨fun q hq => HZQ.out q (by have := HKN.out; have := HN.out; omega), _, us, rfl, ?_⟩, HB.out⟩
      have e : L.take k = L := by rw [HKN.out, HN.out, List.take_length]
      have := HO.out
      rw [e] at this
      exact this
end Go.Proofs.YtgbhaaongmlpkaaGreatDoor
namespace Go.Proofs.YtgbhaaongmlpkaaGreatDoor
open Go.RowKit Num

theorem c_isNaN (a : ByteArray) (w : World) : Calls Tryz.prog 61 #[.string a] w fun e w' => e = .returned (.bool false) ∧ w = w' := by
  go_enter Tryz.func61, Tryz.ntmps61
  go_wp2_with fail
  go_ret
  exact ⟨by simp, rfl⟩
/-- How two texts compare. -/
def cmpS (a b : ByteArray) : Int := if Op.bytesLess a.toList b.toList then -1 else if (!a.toList == b.toList) then 1 else 0
theorem cmpS_neg (a b : ByteArray) : decide (cmpS a b < 0) = Op.bytesLess a.toList b.toList := by
  unfold cmpS
  cases Op.bytesLess a.toList b.toList
  · rw [if_neg (by decide)]
    cases (!a.toList == b.toList)
    · rw [if_neg (by decide)]; decide
    · rw [if_pos rfl]; decide
  · rw [if_pos rfl]; decide
theorem c_Compare (a b : ByteArray) (w : World) : Calls Tryz.prog 45 #[.string a, .string b] w fun e w' => e = .returned (.int .i64 (cmpS a b)) ∧ w = w' := by
  go_enter Tryz.func45, Tryz.ntmps45
  go_wp2_with fail
  refine (c_isNaN a w).mono ?_
  rintro e w' ⟨rfl, rfl⟩
  go_wp2_with fail
  refine (c_isNaN b w).mono ?_
  rintro e w' ⟨rfl, rfl⟩
  go_wp2_with fail
  all_goals
    rename_i h1 h2
    go_ret
    refine ⟨?_, rfl⟩
    unfold cmpS
    simp_all
def rkV (c0 c1 c2 c3 c4 c5 : Value) (r : ByteArray) : Array Value := #[c0, c1, c2, c3, c4, c5, .string r]
set_option maxHeartbeats 1000000 in
theorem c_compare (c0 c1 c2 c3 c4 c5 d0 d1 d2 d3 d4 d5 : Value) (a b : ByteArray) (w : World) :
    Calls Tryz.prog 32 #[.agg #[c0, c1, c2, c3, c4, c5, .string a], .agg #[d0, d1, d2, d3, d4, d5, .string b]] w fun e w' => e = .returned (.int .i64 (cmpS a b)) ∧
      w' = (w.alloc (.cells #[c0, c1, c2, c3, c4, c5, .string a] 78)).alloc (.cells #[d0, d1, d2, d3, d4, d5, .string b] 78) := by
  go_enter Tryz.func32, Tryz.ntmps32
  go_wp2_with fail
  refine (c_Compare a b _).mono ?_
  rintro e w' ⟨rfl, rfl⟩
  go_wp2_with fail
  go_ret
  exact ⟨rfl, rfl⟩
end Go.Proofs.YtgbhaaongmlpkaaGreatDoor
namespace Go.Proofs.YtgbhaaongmlpkaaGreatDoor
open Go.RowKit Num Go.Shelf

def insRen : Go.Shelf.Ren := ⟨fun | 20 => 59 | n => n, fun | 22 => 73 | 24 => 78 | 25 => 79 | n => n, fun | n => n⟩
theorem insLays : SlLaysF0.n20 Tryz.prog insRen := {
  mixed := by kernel_rfl
  f20 := ⟨"slices.insertionSortCmpFunc[reportescrow/order.ranked]", by decide, Tryz.func59.trans (congrArg some (by kernel_rfl))⟩
  t0 := Tryz.underlying0
  a0 := Tryz.isAgg0
  z0 := Tryz.sizeOf0
  v0 := Tryz.zeroValue0
  t3 := Tryz.underlying3
  a3 := Tryz.isAgg3
  z3 := Tryz.sizeOf3
  v3 := Tryz.zeroValue3
  t4 := Tryz.underlying4
  a4 := Tryz.isAgg4
  z4 := Tryz.sizeOf4
  v4 := Tryz.zeroValue4
  t22 := Tryz.underlying73
  a22 := Tryz.isAgg73
  z22 := Tryz.sizeOf73
  v22 := Tryz.zeroValue73
  t25 := Tryz.underlying79
  a25 := Tryz.isAgg79
  z25 := Tryz.sizeOf79
  v25 := Tryz.zeroValue79 }
end Go.Proofs.YtgbhaaongmlpkaaGreatDoor
namespace Go.Proofs.YtgbhaaongmlpkaaGreatDoor
open Go.RowKit Num

/-- A rank is less than another one. -/
def rLess (a b : ByteArray) : Bool := Op.bytesLess a.toList b.toList
def rkAt (seed : ByteArray) (L : List Stm) (k : Nat) : ByteArray := rnkS seed (stmL L k)
/-- What stands ahead of the k-th rank. -/
def lastR (seed : ByteArray) (L : List Stm) (k : Nat) : ByteArray := if k = 0 then ⟨#[]⟩ else rkAt seed L (k - 1)
/-- The k-th statement has bytes, and its rank is not less than the one ahead. -/
def okR (seed : ByteArray) (L : List Stm) (k : Nat) : Bool := decide (bytZ (stmL L k) = 0) && !rLess (rkAt seed L k) (lastR seed L k)
def sortedR (seed : ByteArray) (L : List Stm) : Bool := (List.range L.length).all (okR seed L)
theorem sortedR_yes {seed : ByteArray} {L : List Stm} (h : ∀ k, k < L.length → okR seed L k = true) : sortedR seed L = true := by
  unfold sortedR; rw [List.all_eq_true]; intro k hk; exact h k (List.mem_range.1 hk)
theorem sortedR_no {seed : ByteArray} {L : List Stm} {k : Nat} (hk : k < L.length) (h : okR seed L k = false) : sortedR seed L = false := by
  cases e : sortedR seed L with
  | false => rfl
  | true =>
    unfold sortedR at e
    rw [List.all_eq_true] at e
    have := e k (List.mem_range.2 hk)
    rw [h] at this; cases this
set_option maxRecDepth 100000 in
set_option maxHeartbeats 2000000 in
theorem r_Sorted (seed : ByteArray) (A : Option Addr) (n c : Nat) (L : List Stm) (S : Nat → Prop) (w : World) (hsd : seed.size ≤ 1000) (hv : StmsAt w S (.slice A n c) L) (hS : ∀ b, S b → b < w.heap.size) (hL : L.length ≤ 1000) (hok : ∀ s ∈ L, StmOk s) (hl : LibOk w) (hsp : SpcOk w) :
    Calls Tryz.prog 25 #[.string seed, .slice A n c] w fun e w' => e = .returned (.bool (sortedR seed L)) ∧ Below w.heap.size w w' := by
  obtain ⟨A', n', c', he, hn, hnc, hT⟩ := id hv
  injection he with e1 e2 e3
  subst e1 e2 e3
  have HT := Lib.hid hT
  have HN := Lib.hid hn
  have HS := Lib.hid hS
  have HOK := Lib.hid hok
  have HL := Lib.hid hl
  have HSP := Lib.hid hsp
  have hn1 : n ≤ 1000 := by omega
  clear hv hT hn hS hok hl hsp
  go_enter Tryz.func25, Tryz.ntmps25
  go_wp2_with fail
  go_loopw [5, 6, 7, 8] (fun v5 v6 v7 v8 wr => ∃ k : Nat, k ≤ n ∧ v6 = .int .i64 (k : Int) ∧ v5 = .string (lastR seed L k) ∧ (∀ q, q < k → okR seed L q = true) ∧ Below w.heap.size w wr) (fun _ v6 _ _ _ => n - (intOf v6).toNat)
  case atStart => exact ⟨0, by omega, rfl, rfl, (fun q hq => absurd hq (by omega)), Below.refl _ _⟩
  case round =>
    obtain ⟨k, hk, rfl, rfl, hzq, hb⟩ := hrel
    have HB := Lib.hid hb
    have HZQ := Lib.hid hzq
    have hsz := hb.size
    clear hb hzq
    by_cases hlt : k < n
    · obtain ⟨b, off, rfl, hbw, hc⟩ := HT.out (by omega)
      have hbw := HS.out b hbw
      have hkl : k < L.length := by have := HN.out; omega
      obtain ⟨⟨va, vc, vs⟩, hcl, hst⟩ := hc k hlt
      have hoks := HOK.out _ (stmL_mem hkl)
      have HKL := Lib.hid hkl
      clear hc
      obtain ⟨s, hs⟩ : ∃ s, stmL L k = s := ⟨_, rfl⟩
      rw [hs] at hcl hst hoks
      dsimp only at hst
      obtain ⟨Aa, na, ca, Ac, nc, cc, As, ns, cs, rfl, rfl, rfl⟩ := stm_forms hst
      have HSS := Lib.hid hs
      have e0 := (HB.out.cell (p := ⟨b, off + k * 6, none⟩) hbw).trans (hcl 0 (by decide))
      have e1 := (HB.out.cell (p := ⟨b, off + k * 6 + 1, none⟩) hbw).trans (hcl 1 (by decide))
      have e2 := (HB.out.cell (p := ⟨b, off + k * 6 + 2, none⟩) hbw).trans (hcl 2 (by decide))
      have e3 := (HB.out.cell (p := ⟨b, off + k * 6 + 3, none⟩) hbw).trans (hcl 3 (by decide))
      have e4 := (HB.out.cell (p := ⟨b, off + k * 6 + 4, none⟩) hbw).trans (hcl 4 (by decide))
      have e5 := (HB.out.cell (p := ⟨b, off + k * 6 + 5, none⟩) hbw).trans (hcl 5 (by decide))
      simp only [stmCell, List.getD_cons_zero, List.getD_cons_succ] at e0 e1 e2 e3 e4 e5
      have hrk := r_RankS seed s Aa Ac As na ca nc cc ns cs S wr hsd (hst.keep fun q hq => HB.out.block q (HS.out q hq)) (fun q hq => Nat.lt_of_lt_of_le (HS.out q hq) hsz) hoks (HL.out.later HB.out) (spc_below HSP.out (by have := HL.out.size; show 2 < _; omega) HB.out)
      have HRK := Lib.hid hrk
      clear hcl hst hs hrk hoks
      have zi : (k : Int) < (n : Int) := by omega
      have zj : (0 : Int) ≤ (k : Int) := by omega
      obtain ⟨l, hlr⟩ : ∃ l, lastR seed L k = l := ⟨_, rfl⟩
      rw [hlr]
      have HLR := Lib.hid hlr
      clear hlr
      go_wp2_with fail
      refine HRK.out.mono ?_
      rintro e w1 ⟨rfl, hb1⟩
      have HB1 := Lib.hid (HB.out.trans (hb1.mono hsz))
      clear hb1 e0 e1 e2 e3 e4 e5
      obtain ⟨r, hr⟩ : ∃ r, rnkS seed s = r := ⟨_, rfl⟩
      rw [hr]
      have hr2 : rkAt seed L k = r := by unfold rkAt; rw [HSS.out]; exact hr
      have HR := Lib.hid hr2
      obtain ⟨z, hz⟩ : ∃ z, bytZ s = z := ⟨_, rfl⟩
      have hzi := bytZ_in s
      have hz2 : bytZ (stmL L k) = z := by rw [HSS.out]; exact hz
      rw [hz] at hzi ⊢
      have HZ := Lib.hid hz2
      clear hr hz hr2 hz2
      by_cases hgo : z = 0 ∧ rLess r l = false
      · obtain ⟨rfl, hle⟩ := hgo
        unfold rLess at hle
        have HLE := Lib.hid hle
        clear hzi
        go_wp2_with fail
        go_roundw
        case measure => simp [intOf]; omega
        case rel => exact ⟨k + 1, by omega, by go_num, by unfold lastR; rw [if_neg (by omega), Nat.add_sub_cancel, HR.out], fun q hq => by
            by_cases e : q < k
            · exact HZQ.out q e
            · obtain rfl : q = k := by omega
              unfold okR rLess
              rw [HZ.out, HR.out, HLR.out, HLE.out]; rfl, HB1.out⟩
      · have hno : okR seed L k = false := by
          unfold okR rLess
          rw [HZ.out, HR.out, HLR.out]
          by_cases hz0 : z = 0
          · have : rLess r l = true := by
              cases e : rLess r l with
              | true => rfl
              | false => exact absurd ⟨hz0, e⟩ hgo
            unfold rLess at this
            rw [this]; simp
          · simp [hz0]
        have HNO := Lib.hid (sortedR_no HKL.out hno)
        clear hno
        rcases hzi with rfl | rfl | rfl
        · have hle : Op.bytesLess r.toList l.toList = true := by
            cases e : Op.bytesLess r.toList l.toList with
            | true => rfl
            | false => exact absurd ⟨rfl, e⟩ hgo
          clear hgo
          go_wp2_with fail
          go_ret
          exact ⟨by rw [HNO.out]; rfl, HB1.out⟩
        · clear hgo
          go_wp2_with fail
          go_ret
          exact ⟨by rw [HNO.out]; rfl, HB1.out⟩
        · clear hgo
          go_wp2_with fail
          go_ret
          exact ⟨by rw [HNO.out]; rfl, HB1.out⟩
    · have hkn : k = n := by omega
      have zi : ¬ (k : Int) < (n : Int) := by omega
      have HYES := Lib.hid (sortedR_yes (seed := seed) (L := L) fun q hq => HZQ.out q (by have := HN.out; omega))
      clear hkn
      go_wp2_with fail
      go_ret
      exact ⟨by rw [HYES.out]; rfl, HB.out⟩
end Go.Proofs.YtgbhaaongmlpkaaGreatDoor
namespace Go.Proofs.YtgbhaaongmlpkaaGreatDoor
open Go.RowKit Num Go.Shelf Go.Sort Go.Lib

/-- A ranked statement's seven cells, by its index in the input. -/
def rkEnc (seed : ByteArray) (L : List Stm) (us : Nat → V3) (i : Nat) : List Value := stmCell (stmL L i) (us i) ++ [.string (rkAt seed L i)]
theorem rkEnc_len (seed : ByteArray) (L : List Stm) (us : Nat → V3) (i : Nat) : (rkEnc seed L us i).length = 7 := rfl
theorem cmp_lays (seed : ByteArray) (L : List Stm) (us : Nat → V3) (blk off n : Nat) (w : World) :
    CmpLays Tryz.prog 32 #[] (rkEnc seed L us) 7 (fun i j => cmpS (rkAt seed L i) (rkAt seed L j)) blk off n w := fun m os dk hs x y => by
  rw [Array.append_empty]
  refine (c_compare (.string (stmL L x).resp) (.int .i64 (stmL L x).dep) (.int .i64 (stmL L x).day) (us x).a (us x).c (us x).s (.string (stmL L y).resp) (.int .i64 (stmL L y).dep) (.int .i64 (stmL L y).day) (us y).a (us y).c (us y).s (rkAt seed L x) (rkAt seed L y) _).mono ?_
  rintro e w' ⟨rfl, rfl⟩
  refine ⟨rfl, 0, #[.cells #[.string (stmL L x).resp, .int .i64 (stmL L x).dep, .int .i64 (stmL L x).day, (us x).a, (us x).c, (us x).s, .string (rkAt seed L x)] 78, .cells #[.string (stmL L y).resp, .int .i64 (stmL L y).dep, .int .i64 (stmL L y).day, (us y).a, (us y).c, (us y).s, .string (rkAt seed L y)] 78], ?_⟩
  rw [alloc_eq_grow, alloc_eq_grow, grow_grow]
  rfl
theorem cmp_enters : ∀ args w, (callFunc 32 args).run Tryz.prog w = .ok (.enter 32 args) w := enters_of Tryz.func32 (by kernel_rfl) rfl
/-- The sort of at most seven: its world, in the library's words. -/
theorem o_ins (seed : ByteArray) (L : List Stm) (us : Nat → V3) (g n c : Nat) (w : World) (hus : ∀ i, (us i).a.oneCell' = true ∧ (us i).c.oneCell' = true ∧ (us i).s.oneCell' = true) (hg : g < w.heap.size) (hn : n ≤ 1000) (hH : HoldsK (rkEnc seed L us) 7 w g 0 (Array.range n)) :
    Calls Tryz.prog 59 #[.slice (some ⟨g, 0, none⟩) n c, .int .i64 0, .int .i64 (n : Int), .func (.func 32) #[] #[]] w fun e w' => e = .returned (.tuple #[]) ∧
      ∃ m os, w' = sortWorldK (rkEnc seed L us) 7 w g 0 m (Sort.insertionSort (ltOf fun i j => cmpS (rkAt seed L i) (rkAt seed L j)) (Array.range n) 0 n) os := by
  have h := AnyQ.insertionSortCmpFunc insLays 7 Tryz.isAgg78 Tryz.sizeOf78 (rkEnc seed L us) (rkEnc_len seed L us) (fun x v hv => by
      obtain ⟨a, b, d⟩ := hus x
      simp only [rkEnc, stmCell, List.mem_append, List.mem_cons, List.not_mem_nil, or_false] at hv
      rcases hv with (rfl | rfl | rfl | rfl | rfl | rfl) | rfl <;> first | rfl | assumption)
    (fun i j => cmpS (rkAt seed L i) (rkAt seed L j)) 32 #[] g 0 c 0 n (Array.range n) w cmp_enters (by rw [Array.size_range]; exact cmp_lays seed L us g 0 n w) hH hg (Nat.zero_le _) (by rw [Array.size_range]; exact Nat.le_refl _) (by rw [Array.size_range]; omega)
  rw [Array.size_range] at h
  exact h
end Go.Proofs.YtgbhaaongmlpkaaGreatDoor
namespace Go.Proofs.YtgbhaaongmlpkaaGreatDoor
open Go.RowKit Num Go.Shelf Go.Sort Go.Lib

theorem holds_of {seed : ByteArray} {L : List Stm} {us : Nat → V3} {w : World} {B g n c : Nat} (ho : StsOwn w B 78 7 (.slice (some ⟨g, 0, none⟩) n c) L us (rnkX seed L)) (hn : n = L.length) : HoldsK (rkEnc seed L us) 7 w g 0 (Array.range n) := by
  intro j hj
  subst hn
  have hsz : j < L.length * 7 := by simpa using hj
  have hk : j / 7 < L.length := by omega
  have h1 := ho.cells (fun _ => rfl) hk (Nat.mod_lt j (by decide : 0 < 7))
  have e : j / 7 * 7 + j % 7 = j := by omega
  rw [e] at h1
  have hl : j % 7 < (rkEnc seed L us (j / 7)).length := by rw [rkEnc_len]; exact Nat.mod_lt _ (by decide)
  refine ⟨?_, ?_⟩
  · rw [Nat.zero_add, h1, get_flatK _ _ _ j (by simpa using hsz)]
    have hr : (Array.range L.length)[j / 7]! = j / 7 := by
      rw [getElem!_pos (Array.range L.length) (j / 7) (by simpa using hk)]; simp
    rw [hr]
    show (rkEnc seed L us (j / 7))[j % 7]? = some (rkEnc seed L us (j / 7))[j % 7]!
    rw [List.getElem?_eq_getElem hl, getElem!_pos (rkEnc seed L us (j / 7)) (j % 7) hl]
  · rw [Nat.zero_add]; exact own_frozen ho.row j
end Go.Proofs.YtgbhaaongmlpkaaGreatDoor
namespace Go.Proofs.YtgbhaaongmlpkaaGreatDoor
open Go.RowKit Num

set_option maxRecDepth 100000 in
set_option maxHeartbeats 1000000 in
theorem s_StableG (A : Option Addr) (n c : Nat) (f : Value) (w : World) (Q : World → Prop) (hn : n < 20) (h : Calls Tryz.prog 59 #[.slice A n c, .int .i64 0, .int .i64 (n : Int), f] w fun e w' => e = .returned (.tuple #[]) ∧ Q w') :
    Calls Tryz.prog 44 #[.slice A n c, .int .i64 (n : Int), f] w fun e w' => e = .returned (.tuple #[]) ∧ Q w' := by
  have H := Lib.hid h
  have z1 : ¬ (20 : Int) ≤ (n : Int) := by omega
  have z2 : ¬ (20 : Int) < (n : Int) := by omega
  clear h
  go_enter Tryz.func44, Tryz.ntmps44
  go_wp2_with fail
  go_loopw [7, 8] (fun v7 v8 wr => v7 = .int .i64 0 ∧ v8 = .int .i64 20 ∧ wr = w) (fun _ _ _ => 0)
  case atStart => exact ⟨rfl, rfl, rfl⟩
  case round =>
    obtain ⟨rfl, rfl, rfl⟩ := hrel
    go_wp2_with fail
    refine H.out.mono ?_
    rintro e w1 ⟨rfl, hq⟩
    have HQ := Lib.hid hq
    clear hq
    go_wp2_with fail
    go_loopw [6, 7, 8, 9] (fun v6 _ _ _ wr => v6 = .int .i64 20 ∧ wr = w1) (fun _ _ _ _ _ => 0)
    case atStart => exact ⟨rfl, rfl⟩
    case round =>
      obtain ⟨rfl, rfl⟩ := hrel
      go_wp2_with fail
      go_end0
      exact ⟨rfl, HQ.out⟩
set_option maxRecDepth 100000 in
set_option maxHeartbeats 400000 in
theorem s_SortStableG (A : Option Addr) (n c : Nat) (f : Value) (w : World) (Q : World → Prop) (hn : n < 20) (h : Calls Tryz.prog 59 #[.slice A n c, .int .i64 0, .int .i64 (n : Int), f] w fun e w' => e = .returned (.tuple #[]) ∧ Q w') :
    Calls Tryz.prog 31 #[.slice A n c, f] w fun e w' => e = .returned (.tuple #[]) ∧ Q w' := by
  have H := Lib.hid (s_StableG A n c f w Q hn h)
  clear h
  go_enter Tryz.func31, Tryz.ntmps31
  go_wp2_with fail
  refine H.out.mono ?_
  rintro e w1 ⟨rfl, hq⟩
  have HQ := Lib.hid hq
  clear hq
  go_wp2_with fail
  go_end0
  exact ⟨rfl, HQ.out⟩
end Go.Proofs.YtgbhaaongmlpkaaGreatDoor
namespace Go.Proofs.YtgbhaaongmlpkaaGreatDoor
open Go.Sort

section
variable {α : Type} [Inhabited α] (lt : α → α → Bool)
/-- Where x comes to stand among the first k of X. -/
def posK (x : α) (X : List α) : Nat → Nat
  | 0 => 0
  | k + 1 => if lt x X[k]! then posK x X k else k + 1
theorem posK_le (x : α) (X : List α) : ∀ k, posK lt x X k ≤ k
  | 0 => Nat.le_refl _
  | k + 1 => by
    unfold posK
    by_cases h : lt x X[k]! = true
    · rw [if_pos h]; exact Nat.le_succ_of_le (posK_le x X k)
    · rw [if_neg h]; exact Nat.le_refl _
def insX (X : List α) (x : α) : List α := X.take (posK lt x X X.length) ++ x :: X.drop (posK lt x X X.length)
theorem insX_len (X : List α) (x : α) : (insX lt X x).length = X.length + 1 := by
  have := posK_le lt x X X.length
  unfold insX; rw [List.length_append, List.length_cons, List.length_take, List.length_drop]; omega
/-- All, one after the other. -/
def insAll : List α → List α → List α
  | acc, [] => acc
  | acc, x :: r => insAll (insX lt acc x) r
theorem insAll_len : ∀ (r acc : List α), (insAll lt acc r).length = acc.length + r.length
  | [], acc => rfl
  | x :: r, acc => by
    show (insAll lt (insX lt acc x) r).length = _
    rw [insAll_len r, insX_len, List.length_cons]; omega
omit [Inhabited α] in
theorem set_two (a x : α) (R : List α) : ∀ T : List α, ((T ++ a :: x :: R).set (T.length + 1) a).set T.length x = T ++ x :: a :: R
  | [] => rfl
  | t :: T => by
    have := set_two a x R T
    show t :: ((T ++ a :: x :: R).set (T.length + 1) a).set T.length x = _
    rw [this]; rfl
theorem get_mid (T R : List α) (x : α) : (T ++ x :: R)[T.length]! = x := by
  rw [List.getElem!_eq_getElem?_getD, List.getElem?_append_right (Nat.le_refl _), Nat.sub_self]; rfl
theorem ins_inner (X Y : List α) (x : α) : ∀ (j : Nat) (d : Array α), j ≤ X.length → d.toList = X.take j ++ x :: (X.drop j ++ Y) → (insInner lt 0 j d).toList = X.take (posK lt x X j) ++ x :: (X.drop (posK lt x X j) ++ Y) := by
  intro j
  induction j with
  | zero => intro d _ hd; exact hd
  | succ j ih =>
    intro d hj hd
    have hjl : j < X.length := by omega
    have ht : X.take (j + 1) = X.take j ++ [X[j]] := List.take_succ_eq_append_getElem hjl
    have hdr : X.drop j = X[j] :: X.drop (j + 1) := List.drop_eq_getElem_cons hjl
    have htl : (X.take j).length = j := by rw [List.length_take]; omega
    have hda : d = (X.take j ++ X[j] :: x :: (X.drop (j + 1) ++ Y)).toArray := by
      rw [← Array.toArray_toList (xs := d), hd, ht, List.append_assoc]; rfl
    have g0 : d[j]! = X[j] := by
      rw [hda, List.getElem!_toArray]
      have := get_mid (X.take j) (x :: (X.drop (j + 1) ++ Y)) X[j]
      rwa [htl] at this
    have g1 : d[j + 1]! = x := by
      rw [hda, List.getElem!_toArray]
      have := get_mid (X.take j ++ [X[j]]) (X.drop (j + 1) ++ Y) x
      rw [List.length_append, htl, List.append_assoc] at this
      exact this
    have gx : X[j]! = X[j] := by rw [List.getElem!_eq_getElem?_getD, List.getElem?_eq_getElem hjl]; rfl
    unfold insInner posK
    rw [g0, g1, gx]
    by_cases h : lt x X[j] = true
    · rw [if_pos (by simp [h]), if_pos h]
      refine ih _ (by omega) ?_
      unfold swp
      rw [g0, g1, hda, List.setIfInBounds_toArray, List.setIfInBounds_toArray]
      have := set_two X[j] x (X.drop (j + 1) ++ Y) (X.take j)
      rw [htl] at this
      show List.set (List.set _ _ _) _ _ = _
      rw [this, hdr]; rfl
    · rw [if_neg (by simp [h]), if_neg h]
      exact hd
theorem ins_outer (n : Nat) : ∀ (rest P : List α) (d : Array α), d.toList = P ++ rest → n = P.length + rest.length → (insOuter lt 0 n P.length d).toList = insAll lt P rest := by
  intro rest
  induction rest with
  | nil =>
    intro P d hd hn
    rw [insOuter, if_neg (by simp at hn; omega), hd, List.append_nil]; rfl
  | cons x r ih =>
    intro P d hd hn
    rw [insOuter, if_pos (by simp at hn; omega)]
    have h1 := ins_inner lt P r x P.length d (Nat.le_refl _) (by rw [List.take_length, List.drop_length, List.nil_append]; exact hd)
    have h2 := ih (insX lt P x) (insInner lt 0 P.length d) (by rw [h1]; unfold insX; rw [List.append_assoc]; rfl) (by rw [insX_len]; simp at hn; omega)
    rw [insX_len] at h2
    exact h2
theorem ins_sort (d : Array α) : (insertionSort lt d 0 d.size).toList = insAll lt [] d.toList := by
  unfold insertionSort
  rcases hd : d.toList with _ | ⟨x, r⟩
  · have h0 : d.size = 0 := by rw [← Array.length_toList, hd]; rfl
    rw [insOuter, if_neg (by omega), hd]; rfl
  · have h0 : d.size = [x].length + r.length := by rw [← Array.length_toList, hd]; simp [Nat.add_comm]
    rw [h0]
    exact ins_outer lt _ r [x] d hd rfl
end
end Go.Proofs.YtgbhaaongmlpkaaGreatDoor
