/- Contracts: the bytes of any statement, or the error, by the reference. Contracts: ranks of statements. Words for memory: lists of statements, of the call's own too. -/
import Derived.Test.YtgbhaaongmlpkaaGreatDoorX28
import Derived.Test.YtgbhaaongmlpkaaGreatDoorX26
import Derived.Test.YtgbhaaongmlpkaaGreatDoorX11
import Derived.Test.YtgbhaaongmlpkaaGreatDoorX24
set_option linter.unusedVariables false
set_option linter.unusedSimpArgs false
namespace Go.Proofs.YtgbhaaongmlpkaaGreatDoor
open Go.RowKit Num

set_option maxRecDepth 100000 in
set_option maxHeartbeats 400000 in
theorem r_Valid17 (A : Option Addr) (n c : Nat) (L : List Trm) (B : Nat) (w : World) (hv : TermsAt w (· < B) (.slice A n c) L) (hB : B ≤ w.heap.size) (hL : L.length ≤ 1000000) (hok : ∀ t ∈ L, TrmOk t) (hl : LibOk w) (hsp : SpcOk w) :
    Calls Tryz.prog 53 #[.agg #[.slice A n c]] w (BoolBel (rootF L).isSome w) := by
  have hb0 : Below w.heap.size w (w.alloc (.cells #[.slice A n c] 33)) := (Below.refl _ _).alloc (Nat.le_refl _) _
  have hcd := r_Condition (.slice A n c) L B (w.alloc (.cells #[.slice A n c] 33)) (hv.keep fun g hg => hb0.block g (by omega)) (by simp; omega) hL hok (hl.later hb0) (spc_below hsp (by have := hl.size; show 2 < _; omega) hb0)
  have HCD := Lib.hid hcd
  have HB0 := Lib.hid hb0
  clear hcd hb0 hv hl hsp hok
  go_enter Tryz.func53, Tryz.ntmps53
  go_wp2_with fail
  refine HCD.out.mono ?_
  rintro e w1 ⟨rfl, hb1⟩
  have HB1 := Lib.hid (HB0.out.trans (hb1.mono HB0.out.size))
  clear hb1
  go_wp2_with fail
  go_ret
  exact ⟨rfl, HB1.out⟩
set_option maxRecDepth 100000 in
set_option maxHeartbeats 4000000 in
theorem r_Bytes (s : Stm) (Aa Ac As : Option Addr) (na ca nc cc ns cs : Nat) (S : Nat → Prop) (w : World) (hv : StmAt w S (.slice Aa na ca) (.slice Ac nc cc) (.slice As ns cs) s) (hS : ∀ b, S b → b < w.heap.size) (hok : StmOk s) (hl : LibOk w) (hsp : SpcOk w) :
    Calls Tryz.prog 38 #[.agg #[.string s.resp, .int .i64 s.dep, .int .i64 s.day, .slice Aa na ca, .slice Ac nc cc, .slice As ns cs]] w (BytE s w) := by
  obtain ⟨A1, n1, c1, e1, hna, hca, hA⟩ := id hv.aa
  injection e1 with q1 q2 q3
  subst q1 q2 q3
  obtain ⟨A1, n1, c1, e1, hns, hcs, hSh⟩ := id hv.ss
  injection e1 with q1 q2 q3
  subst q1 q2 q3
  have hb0 : Below w.heap.size w (w.alloc (.cells #[.string s.resp, .int .i64 s.dep, .int .i64 s.day, .slice Aa na ca, .slice Ac nc cc, .slice As ns cs] 36)) := (Below.refl _ _).alloc (Nat.le_refl _) _
  have hs0 : (w.alloc (.cells #[.string s.resp, .int .i64 s.dep, .int .i64 s.day, .slice Aa na ca, .slice Ac nc cc, .slice As ns cs] 36)).heap.size = w.heap.size + 1 := by simp
  have hbk : Blk (w.alloc (.cells #[.string s.resp, .int .i64 s.dep, .int .i64 s.day, .slice Aa na ca, .slice Ac nc cc, .slice As ns cs] 36)) w.heap.size 36 #[.string s.resp, .int .i64 s.dep, .int .i64 s.day, .slice Aa na ca, .slice Ac nc cc, .slice As ns cs] := Blk.new w _ _
  have hvd := r_Valid17 Ac nc cc s.cond w.heap.size _ ((hv.cc.keep fun b hB => hb0.block b (hS b hB)).mono hS) hb0.size hok.cn hok.cond (hl.later hb0) (spc_below hsp (by have := hl.size; show 2 < _; omega) hb0)
  have hwr := fun (W : World) (hb : Below w.heap.size w W) (hm : max s.ans.length s.shw.length ≤ 256) => r_write s Aa Ac As na ca nc cc ns cs S W (hv.keep fun b hB => hb.block b (hS b hB)) (fun b hB => Nat.lt_of_lt_of_le (hS b hB) hb.size) hok hm (hl.later hb) (spc_below hsp (by have := hl.size; show 2 < _; omega) hb)
  have HB0 := Lib.hid hb0
  have HBK := Lib.hid hbk
  have HVD := Lib.hid hvd
  have HWR := Lib.hid hwr
  have HNA := Lib.hid hna
  have HNS := Lib.hid hns
  clear hb0 hbk hvd hwr hna hns hv hok hl hsp hA hSh hS
  cases hrt : rootF s.cond with
  | none =>
    have he := bytS_none hrt
    have HE := Lib.hid he
    rw [hrt] at HVD
    clear he hrt
    go_enter Tryz.func38, Tryz.ntmps38
    go_wp2_with fail
    refine HVD.out.mono ?_
    rintro e w1 ⟨rfl, hb1⟩
    have HB1 := Lib.hid (HB0.out.trans (hb1.mono HB0.out.size))
    clear hb1
    go_wp2_with fail
    go_ret2
    exact ⟨by rw [HE.out.1, HE.out.2]; rfl, HB1.out⟩
  | some T =>
    have hsome : (rootF s.cond).isSome = true := by rw [hrt]; rfl
    have HSO := Lib.hid hsome
    rw [hrt] at HVD
    clear hrt hsome
    by_cases h1 : na ≤ 256
    · have z1 : ¬ (256 : Int) < (na : Int) := by omega
      by_cases h2 : ns ≤ 256
      · have z2 : ¬ (256 : Int) < (ns : Int) := by omega
        have hm : max s.ans.length s.shw.length ≤ 256 := by have := HNA.out; have := HNS.out; omega
        have hwz : (stmW s).length = (bO (stmW s)).size := (bO_size _).symm
        by_cases hln : (stmW s).length ≤ 16384
        · have he := bytS_good HSO.out hm hln
          have HE := Lib.hid he
          have HM := Lib.hid hm
          rw [hwz] at hln
          clear he hm hwz
          go_enter Tryz.func38, Tryz.ntmps38
          go_wp2_with fail
          refine HVD.out.mono ?_
          rintro e w1 ⟨rfl, hb1⟩
          have hbk1 := HBK.out.below' hb1 (by omega)
          have y0 := (hbk1.cell 0).trans (show _ = some (Value.string s.resp) from rfl)
          have y1 := (hbk1.cell 1).trans (show _ = some (Value.int .i64 s.dep) from rfl)
          have y2 := (hbk1.cell 2).trans (show _ = some (Value.int .i64 s.day) from rfl)
          have y3 := (hbk1.cell 3).trans (show _ = some (Value.slice Aa na ca) from rfl)
          have y4 := (hbk1.cell 4).trans (show _ = some (Value.slice Ac nc cc) from rfl)
          have y5 := (hbk1.cell 5).trans (show _ = some (Value.slice As ns cs) from rfl)
          have HB1 := Lib.hid (HB0.out.trans (hb1.mono HB0.out.size))
          clear hb1 hbk1
          go_wp2_with fail
          refine (HWR.out _ HB1.out HM.out).mono ?_
          rintro e w2 ⟨rfl, hb2⟩
          have HB2 := Lib.hid (HB1.out.trans (hb2.mono HB1.out.size))
          clear hb2
          generalize bO (stmW s) = r at *
          have q1 : ¬ (16384 : Int) < (r.size : Int) := by omega
          go_wp2_with fail
          go_ret2
          exact ⟨by rw [HE.out.1, HE.out.2]; rfl, HB2.out⟩
        · have he := bytS_long HSO.out hm hln
          have HE := Lib.hid he
          have HM := Lib.hid hm
          rw [hwz] at hln
          clear he hm hwz
          go_enter Tryz.func38, Tryz.ntmps38
          go_wp2_with fail
          refine HVD.out.mono ?_
          rintro e w1 ⟨rfl, hb1⟩
          have hbk1 := HBK.out.below' hb1 (by omega)
          have y0 := (hbk1.cell 0).trans (show _ = some (Value.string s.resp) from rfl)
          have y1 := (hbk1.cell 1).trans (show _ = some (Value.int .i64 s.dep) from rfl)
          have y2 := (hbk1.cell 2).trans (show _ = some (Value.int .i64 s.day) from rfl)
          have y3 := (hbk1.cell 3).trans (show _ = some (Value.slice Aa na ca) from rfl)
          have y4 := (hbk1.cell 4).trans (show _ = some (Value.slice Ac nc cc) from rfl)
          have y5 := (hbk1.cell 5).trans (show _ = some (Value.slice As ns cs) from rfl)
          have HB1 := Lib.hid (HB0.out.trans (hb1.mono HB0.out.size))
          clear hb1 hbk1
          go_wp2_with fail
          refine (HWR.out _ HB1.out HM.out).mono ?_
          rintro e w2 ⟨rfl, hb2⟩
          have HB2 := Lib.hid (HB1.out.trans (hb2.mono HB1.out.size))
          clear hb2
          generalize bO (stmW s) = r at *
          have q1 : (16384 : Int) < (r.size : Int) := by omega
          go_wp2_with fail
          go_ret2
          exact ⟨by rw [HE.out.1, HE.out.2]; rfl, HB2.out⟩
      · have z2 : (256 : Int) < (ns : Int) := by omega
        have he := bytS_many HSO.out (by have := HNA.out; have := HNS.out; omega)
        have HE := Lib.hid he
        clear he
        go_enter Tryz.func38, Tryz.ntmps38
        go_wp2_with fail
        refine HVD.out.mono ?_
        rintro e w1 ⟨rfl, hb1⟩
        have hbk1 := HBK.out.below' hb1 (by omega)
        have y3 := (hbk1.cell 3).trans (show _ = some (Value.slice Aa na ca) from rfl)
        have y5 := (hbk1.cell 5).trans (show _ = some (Value.slice As ns cs) from rfl)
        have HB1 := Lib.hid (HB0.out.trans (hb1.mono HB0.out.size))
        clear hb1 hbk1
        go_wp2_with fail
        go_ret2
        exact ⟨by rw [HE.out.1, HE.out.2]; rfl, HB1.out⟩
    · have z1 : (256 : Int) < (na : Int) := by omega
      have he := bytS_many HSO.out (by have := HNA.out; have := HNS.out; omega)
      have HE := Lib.hid he
      clear he
      go_enter Tryz.func38, Tryz.ntmps38
      go_wp2_with fail
      refine HVD.out.mono ?_
      rintro e w1 ⟨rfl, hb1⟩
      have hbk1 := HBK.out.below' hb1 (by omega)
      have y3 := (hbk1.cell 3).trans (show _ = some (Value.slice Aa na ca) from rfl)
      have HB1 := Lib.hid (HB0.out.trans (hb1.mono HB0.out.size))
      clear hb1 hbk1
      go_wp2_with fail
      go_ret2
      exact ⟨by rw [HE.out.1, HE.out.2]; rfl, HB1.out⟩
end Go.Proofs.YtgbhaaongmlpkaaGreatDoor
namespace Go.Proofs.YtgbhaaongmlpkaaGreatDoor
open Go.RowKit Num

/-- A statement's rank, or nothing and the error. -/
def rnkS (seed : ByteArray) (s : Stm) : ByteArray := if bytZ s = 0 then pairS seed (bytS s) else ⟨#[]⟩
def RnkQ (seed : ByteArray) (s : Stm) (w : World) (e : Ending) (w' : World) : Prop := e = .returned (.tuple #[.string (rnkS seed s), .int .i64 (bytZ s)]) ∧ Below w.heap.size w w'
theorem bytS_size (s : Stm) : (bytS s).size ≤ 16384 := by
  unfold bytS
  by_cases h1 : (rootF s.cond).isSome = true
  · rw [if_pos h1]
    by_cases h2 : max s.ans.length s.shw.length ≤ 256
    · rw [if_pos h2]
      by_cases h3 : (stmW s).length ≤ 16384
      · rw [if_pos h3, bO_size]; exact h3
      · rw [if_neg h3]; decide
    · rw [if_neg h2]; decide
  · rw [if_neg h1]; decide
theorem bytZ_in (s : Stm) : bytZ s = 0 ∨ bytZ s = 3 ∨ bytZ s = 14 := by
  unfold bytZ
  by_cases h1 : (rootF s.cond).isSome = true
  · rw [if_pos h1]
    by_cases h2 : max s.ans.length s.shw.length ≤ 256
    · rw [if_pos h2]
      by_cases h3 : (stmW s).length ≤ 16384
      · rw [if_pos h3]; exact .inl rfl
      · rw [if_neg h3]; exact .inr (.inl rfl)
    · rw [if_neg h2]; exact .inr (.inl rfl)
  · rw [if_neg h1]; exact .inr (.inr rfl)
set_option maxRecDepth 100000 in
set_option maxHeartbeats 1000000 in
theorem o_RankS (seed : ByteArray) (s : Stm) (Aa Ac As : Option Addr) (na ca nc cc ns cs : Nat) (S : Nat → Prop) (w : World) (hsd : seed.size ≤ 1000) (hv : StmAt w S (.slice Aa na ca) (.slice Ac nc cc) (.slice As ns cs) s) (hS : ∀ b, S b → b < w.heap.size) (hok : StmOk s) (hl : LibOk w) (hsp : SpcOk w) :
    Calls Tryz.prog 15 #[.string seed, .agg #[.string s.resp, .int .i64 s.dep, .int .i64 s.day, .slice Aa na ca, .slice Ac nc cc, .slice As ns cs]] w (RnkQ seed s w) := by
  have hb0 : Below w.heap.size w (w.alloc (.cells #[.string s.resp, .int .i64 s.dep, .int .i64 s.day, .slice Aa na ca, .slice Ac nc cc, .slice As ns cs] 36)) := (Below.refl _ _).alloc (Nat.le_refl _) _
  have hby := s_Bytes s Aa Ac As na ca nc cc ns cs S (w.alloc (.cells #[.string s.resp, .int .i64 s.dep, .int .i64 s.day, .slice Aa na ca, .slice Ac nc cc, .slice As ns cs] 36)) (hv.keep fun b hB => hb0.block b (hS b hB)) (fun b hB => by have := hS b hB; simp; omega) hok (hl.later hb0)
  have hz := bytS_size s
  have HBY := Lib.hid hby
  have HB0 := Lib.hid hb0
  unfold RnkQ rnkS
  have hr := bytZ_in s
  clear hb0 hby hv hS hok hl hsp
  unfold BytE at HBY
  generalize bytS s = b at *
  generalize bytZ s = z at *
  go_enter Tryz.func15, Tryz.ntmps15
  go_wp2_with fail
  refine HBY.out.mono ?_
  rintro e w1 ⟨rfl, hb1⟩
  have HB1 := Lib.hid (HB0.out.trans (hb1.mono HB0.out.size))
  clear hb1
  rcases hr with rfl | rfl | rfl
  · go_wp2_with fail
    refine (d_Pair seed b w1 (by omega) (by omega)).mono ?_
    rintro e w2 ⟨rfl, hb2⟩
    have HB2 := Lib.hid (HB1.out.trans (hb2.mono HB1.out.size))
    clear hb2
    go_wp2_with fail
    go_ret2
    exact ⟨rfl, HB2.out⟩
  · go_wp2_with fail
    go_ret2
    exact ⟨rfl, HB1.out⟩
  · go_wp2_with fail
    go_ret2
    exact ⟨rfl, HB1.out⟩
set_option maxRecDepth 100000 in
set_option maxHeartbeats 1000000 in
theorem r_RankS (seed : ByteArray) (s : Stm) (Aa Ac As : Option Addr) (na ca nc cc ns cs : Nat) (S : Nat → Prop) (w : World) (hsd : seed.size ≤ 1000) (hv : StmAt w S (.slice Aa na ca) (.slice Ac nc cc) (.slice As ns cs) s) (hS : ∀ b, S b → b < w.heap.size) (hok : StmOk s) (hl : LibOk w) (hsp : SpcOk w) :
    Calls Tryz.prog 26 #[.string seed, .agg #[.string s.resp, .int .i64 s.dep, .int .i64 s.day, .slice Aa na ca, .slice Ac nc cc, .slice As ns cs]] w (RnkQ seed s w) := by
  have hb0 : Below w.heap.size w (w.alloc (.cells #[.string s.resp, .int .i64 s.dep, .int .i64 s.day, .slice Aa na ca, .slice Ac nc cc, .slice As ns cs] 36)) := (Below.refl _ _).alloc (Nat.le_refl _) _
  have hby := r_Bytes s Aa Ac As na ca nc cc ns cs S (w.alloc (.cells #[.string s.resp, .int .i64 s.dep, .int .i64 s.day, .slice Aa na ca, .slice Ac nc cc, .slice As ns cs] 36)) (hv.keep fun b hB => hb0.block b (hS b hB)) (fun b hB => by have := hS b hB; simp; omega) hok (hl.later hb0) (spc_below hsp (by have := hl.size; show 2 < _; omega) hb0)
  have hz := bytS_size s
  have HBY := Lib.hid hby
  have HB0 := Lib.hid hb0
  unfold RnkQ rnkS
  have hr := bytZ_in s
  clear hb0 hby hv hS hok hl hsp
  unfold BytE at HBY
  generalize bytS s = b at *
  generalize bytZ s = z at *
  go_enter Tryz.func26, Tryz.ntmps26
  go_wp2_with fail
  refine HBY.out.mono ?_
  rintro e w1 ⟨rfl, hb1⟩
  have HB1 := Lib.hid (HB0.out.trans (hb1.mono HB0.out.size))
  clear hb1
  rcases hr with rfl | rfl | rfl
  · go_wp2_with fail
    refine (rf_Pair seed b w1 (by omega) (by omega)).mono ?_
    rintro e w2 ⟨rfl, hb2⟩
    have HB2 := Lib.hid (HB1.out.trans (hb2.mono HB1.out.size))
    clear hb2
    go_wp2_with fail
    go_ret2
    exact ⟨rfl, HB2.out⟩
  · go_wp2_with fail
    go_ret2
    exact ⟨rfl, HB1.out⟩
  · go_wp2_with fail
    go_ret2
    exact ⟨rfl, HB1.out⟩
end Go.Proofs.YtgbhaaongmlpkaaGreatDoor
namespace Go.Proofs.YtgbhaaongmlpkaaGreatDoor
open Go.RowKit Num

theorem flat_len (f : Nat → List Value) (z : Nat) (hf : ∀ k, (f k).length = z) : ∀ n, ((List.range n).flatMap f).length = n * z := by
  intro n
  induction n with
  | zero => simp
  | succ n ih => rw [List.range_succ, List.flatMap_append, List.length_append, ih, List.flatMap_cons, List.flatMap_nil, List.append_nil, hf, Nat.succ_mul]
theorem flat_get (f : Nat → List Value) (z : Nat) (hf : ∀ k, (f k).length = z) : ∀ n k j, k < n → j < z → ((List.range n).flatMap f)[k * z + j]? = (f k)[j]? := by
  intro n
  induction n with
  | zero => intro k j h; omega
  | succ n ih =>
    intro k j hk hj
    have hl := flat_len f z hf n
    have hlt : k < n → k * z + j < n * z := fun h => by
      have : (k + 1) * z ≤ n * z := Nat.mul_le_mul_right z h
      rw [Nat.succ_mul] at this; omega
    rw [List.range_succ, List.flatMap_append, List.flatMap_cons, List.flatMap_nil, List.append_nil]
    by_cases e : k < n
    · rw [List.getElem?_append_left (by rw [hl]; exact hlt e)]; exact ih k j e hj
    · obtain rfl : k = n := by omega
      rw [List.getElem?_append_right (by rw [hl]; omega), hl, show k * z + j - k * z = j by omega]
theorem flat_congr (f g : Nat → List Value) : ∀ n, (∀ k, k < n → f k = g k) → (List.range n).flatMap f = (List.range n).flatMap g := by
  intro n
  induction n with
  | zero => intro _; rfl
  | succ n ih => intro h; rw [List.range_succ, List.flatMap_append, List.flatMap_append, ih fun k hk => h k (by omega), List.flatMap_cons, List.flatMap_cons, h n (by omega)]; rfl
def stm0 : Stm := ⟨⟨#[]⟩, 0, 0, [], [], []⟩
def stmL (L : List Stm) (k : Nat) : Stm := L.getD k stm0
theorem stmL_old (L : List Stm) (s : Stm) (k : Nat) (h : k < L.length) : stmL (L ++ [s]) k = stmL L k := by
  unfold stmL; rw [List.getD_eq_getElem?_getD, List.getD_eq_getElem?_getD, List.getElem?_append_left h]
theorem stmL_new (L : List Stm) (s : Stm) : stmL (L ++ [s]) L.length = s := by
  unfold stmL; rw [List.getD_eq_getElem?_getD, List.getElem?_append_right (Nat.le_refl _)]; simp
theorem stmL_mem {L : List Stm} {k : Nat} (h : k < L.length) : stmL L k ∈ L := by
  unfold stmL; rw [List.getD_eq_getElem?_getD, List.getElem?_eq_getElem h]; exact List.getElem_mem h
theorem stmL_take (L : List Stm) (n k : Nat) (h : k < n) : stmL (L.take n) k = stmL L k := by
  unfold stmL; rw [List.getD_eq_getElem?_getD, List.getD_eq_getElem?_getD, List.getElem?_take, if_pos h]
theorem takeS_snoc (L : List Stm) (k : Nat) (h : k < L.length) : L.take (k + 1) = L.take k ++ [stmL L k] := by
  rw [List.take_succ_eq_append_getElem h]
  unfold stmL
  rw [List.getD_eq_getElem?_getD, List.getElem?_eq_getElem h]; rfl
/-- The values of a statement's three lists. -/
structure V3 where
  a : Value
  c : Value
  s : Value
def stmCell (s : Stm) (u : V3) : List Value := [.string s.resp, .int .i64 s.dep, .int .i64 s.day, u.a, u.c, u.s]
/-- A statement that lies in six cells. -/
def CellAt (w : World) (S : Nat → Prop) (b off : Nat) (s : Stm) : Prop := ∃ u : V3, (∀ j, j < 6 → w.cell? ⟨b, off + j, none⟩ = some ((stmCell s u).getD j undef)) ∧ StmAt w S u.a u.c u.s s
/-- A list of statements. -/
def StmsAt (w : World) (S : Nat → Prop) (v : Value) (L : List Stm) : Prop :=
  ∃ (A : Option Addr) (n c : Nat), v = .slice A n c ∧ n = L.length ∧ n ≤ c ∧ (0 < n → ∃ b off, A = some ⟨b, off, none⟩ ∧ S b ∧ ∀ k, k < n → CellAt w S b (off + k * 6) (stmL L k))
theorem CellAt.keep {w w' : World} {S : Nat → Prop} {b off : Nat} {s : Stm} (h : CellAt w S b off s) (hb : w'.heap[b]? = w.heap[b]?) (hk : ∀ b, S b → w'.heap[b]? = w.heap[b]?) : CellAt w' S b off s := by
  obtain ⟨u, h1, h2⟩ := h
  exact ⟨u, fun j hj => (World.cell?_of_block hb).trans (h1 j hj), h2.keep hk⟩
theorem StmsAt.keep {w w' : World} {S : Nat → Prop} {v : Value} {L : List Stm} (h : StmsAt w S v L) (hk : ∀ b, S b → w'.heap[b]? = w.heap[b]?) : StmsAt w' S v L := by
  obtain ⟨A, n, c, h1, h2, h3, h4⟩ := h
  refine ⟨A, n, c, h1, h2, h3, fun hn => ?_⟩
  obtain ⟨b, off, hA, hS, hc⟩ := h4 hn
  exact ⟨b, off, hA, hS, fun k hk' => (hc k hk').keep (hk b hS) hk⟩
theorem StmsAt.mono {w : World} {S T : Nat → Prop} {v : Value} {L : List Stm} (h : StmsAt w S v L) (hk : ∀ b, S b → T b) : StmsAt w T v L := by
  obtain ⟨A, n, c, h1, h2, h3, h4⟩ := h
  refine ⟨A, n, c, h1, h2, h3, fun hn => ?_⟩
  obtain ⟨b, off, hA, hS, hc⟩ := h4 hn
  exact ⟨b, off, hA, hk b hS, fun k hk' => by obtain ⟨u, a, d⟩ := hc k hk'; exact ⟨u, a, d.mono hk⟩⟩
/-- The cells of a row of statements; behind each more cells (its rank). -/
def stsC (L : List Stm) (us : Nat → V3) (ex : Nat → List Value) : List Value := (List.range L.length).flatMap fun k => stmCell (stmL L k) (us k) ++ ex k
theorem stsC_snoc (L : List Stm) (s : Stm) (us : Nat → V3) (u : V3) (ex : Nat → List Value) :
    stsC (L ++ [s]) (fun k => if k = L.length then u else us k) ex = stsC L us ex ++ (stmCell s u ++ ex L.length) := by
  unfold stsC
  rw [List.length_append, List.length_singleton, List.range_succ, List.flatMap_append, List.flatMap_cons, List.flatMap_nil, List.append_nil, stmL_new]
  have e1 : (fun k => if k = L.length then u else us k) L.length = u := if_pos rfl
  rw [e1]
  congr 1
  refine flat_congr _ _ _ fun k hk => ?_
  have e2 : (fun k => if k = L.length then u else us k) k = us k := if_neg (by omega)
  rw [stmL_old L s k hk, e2]
/-- A row of the call's own of statements. -/
structure StsOwn (w : World) (B : Nat) (e : TypeId) (z : Nat) (v : Value) (L : List Stm) (us : Nat → V3) (ex : Nat → List Value) : Prop where
  row : w.ownsRow B e z v L.length (stsC L us ex)
  at_ : ∀ k, k < L.length → StmAt w (fun b => B ≤ b ∧ b < w.heap.size ∧ v.ownBlock ≠ some b) (us k).a (us k).c (us k).s (stmL L k)
section
variable {w w' w1 w2 : World} {B z : Nat} {e : TypeId} {v v' : Value} {L : List Stm} {us : Nat → V3} {ex : Nat → List Value} {s : Stm} {u : V3} {o : Obj}
theorem StsOwn.nil (w : World) (B : Nat) (e : TypeId) (z : Nat) (us : Nat → V3) (ex : Nat → List Value) : StsOwn w B e z (.slice none 0 0) [] us ex := ⟨World.ownsRow_nil _ _ _ _, fun k hk => absurd hk (Nat.not_lt_zero k)⟩
theorem StsOwn.keep (h : StsOwn w B e z v L us ex) {row : Option Nat} (hg : w.grownBy w' row) (hr : ∀ q, row = some q → q < B) : StsOwn w' B e z v L us ex := by
  have hne : v.ownBlock = none ∨ v.ownBlock ≠ row := by
    rcases hb : v.ownBlock with _ | g
    · exact .inl rfl
    · refine .inr fun e2 => ?_
      have := hr g e2.symm
      have := (h.row.lt g hb).1
      omega
  exact ⟨h.row.kept hg hne, fun k hk => ((h.at_ k hk).keep fun b hb => hg.block b hb.2.1 (fun e2 => by have := hr b e2.symm; omega)).mono fun b hb => ⟨hb.1, Nat.lt_of_lt_of_le hb.2.1 hg.size, hb.2.2⟩⟩
theorem StsOwn.below (h : StsOwn w B e z v L us ex) (hb : Below w.heap.size w w') : StsOwn w' B e z v L us ex :=
  h.keep (row := none) (only_of_below hb none) (fun q hq => by cases hq)
/-- One more statement is put behind the others: its lists lie in blocks that are none of the row's. -/
theorem StsOwn.push (h : StsOwn w B e z v L us ex) (hs : StmAt w (fun b => B ≤ b ∧ b < w.heap.size ∧ v.ownBlock ≠ some b) u.a u.c u.s s) (hown : w2.ownsRow B e z v' (L.length + 1) (stsC L us ex ++ (stmCell s u ++ ex L.length))) (hg : (w.alloc o).grownBy w2 v.ownBlock)
    (hat : v'.ownBlock = v.ownBlock ∨ v'.ownBlock = some (w.heap.size + 1)) : StsOwn w2 B e z v' (L ++ [s]) (fun k => if k = L.length then u else us k) ex := by
  have hkb : ∀ b, B ≤ b ∧ b < w.heap.size ∧ v.ownBlock ≠ some b → w2.heap[b]? = w.heap[b]? := fun b hb => (hg.block b (by simp; omega) (fun e2 => hb.2.2 e2.symm)).trans (Below.heap_alloc w o b hb.2.1)
  have hsz := hg.size
  simp only [World.size_alloc] at hsz
  have hS : ∀ b, B ≤ b ∧ b < w.heap.size ∧ v.ownBlock ≠ some b → B ≤ b ∧ b < w2.heap.size ∧ v'.ownBlock ≠ some b := fun b hb => ⟨hb.1, by omega, by
    rcases hat with e2 | e2
    · rw [e2]; exact hb.2.2
    · rw [e2]; intro e3; injection e3; omega⟩
  refine ⟨by rw [stsC_snoc, List.length_append]; exact hown, fun k hk => ?_⟩
  rw [List.length_append, List.length_singleton] at hk
  by_cases e2 : k = L.length
  · subst e2
    rw [if_pos rfl, stmL_new]
    exact (hs.keep hkb).mono hS
  · rw [if_neg e2, stmL_old L s k (by omega)]
    exact ((h.at_ k (by omega)).keep hkb).mono hS
/-- The cells of such a row. -/
theorem StsOwn.cells {g cap : Nat} (h : StsOwn w B e z (.slice (some ⟨g, 0, none⟩) L.length cap) L us ex) (hex : ∀ k, (ex k).length + 6 = z) {k j : Nat} (hk : k < L.length) (hj : j < z) :
    w.cell? ⟨g, k * z + j, none⟩ = (stmCell (stmL L k) (us k) ++ ex k)[j]? := by
  have hf : ∀ k, (stmCell (stmL L k) (us k) ++ ex k).length = z := fun k => by rw [List.length_append, ← hex k]; show 6 + _ = _; omega
  have hget := flat_get (fun k => stmCell (stmL L k) (us k) ++ ex k) z hf L.length k j hk hj
  have hlt : j < (stmCell (stmL L k) (us k) ++ ex k).length := by rw [hf k]; exact hj
  rw [List.getElem?_eq_getElem hlt] at hget ⊢
  exact own_cell h.row _ _ hget
/-- A row of statements is a list of statements. -/
theorem StsOwn.stms (h : StsOwn w B e 6 v L us fun _ => []) : StmsAt w (fun b => B ≤ b ∧ b < w.heap.size) v L := by
  rcases id h.row.2 with ⟨rfl, h0⟩ | ⟨g, cap, cur, rfl, hB, hh, hnc, _⟩
  · exact ⟨none, 0, 0, rfl, h0.symm, Nat.le_refl _, fun hn => absurd hn (Nat.lt_irrefl 0)⟩
  · refine ⟨_, L.length, cap, rfl, rfl, hnc, fun hn => ⟨g, 0, rfl, ⟨hB, (Array.getElem?_eq_some_iff.1 hh).1⟩, fun k hk => ⟨us k, fun j hj => ?_, (h.at_ k hk).mono fun b hb => ⟨hb.1, hb.2.1⟩⟩⟩⟩
    rw [Nat.zero_add]
    have := h.cells (fun _ => rfl) hk hj
    rw [List.append_nil] at this
    rw [this, List.getD_eq_getElem?_getD]
    have hl : j < (stmCell (stmL L k) (us k)).length := hj
    rw [List.getElem?_eq_getElem hl]; rfl
end
end Go.Proofs.YtgbhaaongmlpkaaGreatDoor
