/- Words for memory: lists of contents; rows of the call's own of contents whose statements' lists lie elsewhere. Contract: play.Contents. Contracts: the reference's text of a term without parts (printed by gen_fmrx.py). Contracts: the reference's bytes of words and names of fields. Plain: the reference's reading of a condition is the program's: its test of a term, its walk over the terms, its text. Contracts: the reference's test of a term (printed by gen_fmrt.py). -/
import Derived.Test.YtgeahbmaeaoeeaaGreatDoorQ20
import Derived.Test.YtgeahbmaeaoeeaaGreatDoorQ22
import Derived.Test.YtgeahbmaeaoeeaaGreatDoorQ26
import Derived.Test.YtgeahbmaeaoeeaaGreatDoorQ28
set_option linter.unusedVariables false
set_option linter.unusedSimpArgs false
namespace Go.Proofs.YtgeahbmaeaoeeaaGreatDoor
open Go.RowKit Num

/-- A content, with the values of its statement's three lists. -/
structure Cnt where
  num : Int
  time : Int
  op : Bool
  sec : Int
  st : Stm
  va : Value
  vc : Value
  vs : Value
def cnt0 : Cnt := ⟨0, 0, false, 0, ⟨⟨#[]⟩, 0, 0, [], [], []⟩, undef, undef, undef⟩
def cntB (x : Cnt) : List Value := [.int .i64 x.num, .int .i64 x.time, .bool x.op, .int .i64 x.sec, .string x.st.resp, .int .i64 x.st.dep, .int .i64 x.st.day, x.va, x.vc, x.vs]
def cntC (L : List Cnt) : List Value := L.flatMap cntB
theorem cntC_len (L : List Cnt) : (cntC L).length = L.length * 10 := by
  induction L with
  | nil => rfl
  | cons a r ih =>
    show (cntB a ++ cntC r).length = _
    rw [List.length_append, ih, List.length_cons, Nat.succ_mul]
    show 10 + _ = _
    omega
theorem cntC_snoc (L : List Cnt) (x : Cnt) : cntC (L ++ [x]) = cntC L ++ cntB x := by simp [cntC]
theorem cntC_at : ∀ (L : List Cnt) (k : Nat) (h : k < L.length) (j : Nat), j < 10 → (cntC L)[k * 10 + j]? = (cntB L[k])[j]?
  | [], k, h, _, _ => absurd h (Nat.not_lt_zero _)
  | a :: r, 0, _, j, hj => by
    show (cntB a ++ cntC r)[0 * 10 + j]? = (cntB a)[j]?
    rw [Nat.zero_mul, Nat.zero_add, List.getElem?_append_left (by show j < 10; exact hj)]
  | a :: r, k + 1, h, j, hj => by
    have := cntC_at r k (by simpa using h) j hj
    have hk : k < r.length := by simpa using h
    show (cntB a ++ cntC r)[(k + 1) * 10 + j]? = (cntB (r[k]'hk))[j]?
    rw [List.getElem?_append_right (by show 10 ≤ _; omega), ← this]
    show (cntC r)[(k + 1) * 10 + j - 10]? = _
    rw [show (k + 1) * 10 + j - 10 = k * 10 + j by omega]
/-- A list of contents in memory. -/
def CntsAt (w : World) (S : Nat → Prop) (v : Value) (L : List Cnt) : Prop :=
  (∃ (A : Option Addr) (n c : Nat), v = .slice A n c ∧ n = L.length ∧ n ≤ c ∧ (0 < n → ∃ b off, A = some ⟨b, off, none⟩ ∧ S b ∧ ∀ k (h : k < L.length) j, j < 10 → w.cell? ⟨b, off + (k * 10 + j), none⟩ = (cntB L[k])[j]?)) ∧ ∀ x ∈ L, StmAt w S x.va x.vc x.vs x.st
theorem CntsAt.keep {w w' : World} {S : Nat → Prop} {v : Value} {L : List Cnt} (h : CntsAt w S v L) (hk : ∀ b, S b → w'.heap[b]? = w.heap[b]?) : CntsAt w' S v L := by
  obtain ⟨⟨A, n, c, h1, h2, h3, h4⟩, h5⟩ := h
  refine ⟨⟨A, n, c, h1, h2, h3, fun hn => ?_⟩, fun x hx => (h5 x hx).keep hk⟩
  obtain ⟨b, off, hA, hS, hc⟩ := h4 hn
  exact ⟨b, off, hA, hS, fun k hk' j hj => (World.cell?_of_block (hk b hS)).trans (hc k hk' j hj)⟩
theorem CntsAt.mono {w : World} {S T : Nat → Prop} {v : Value} {L : List Cnt} (h : CntsAt w S v L) (hk : ∀ b, S b → T b) : CntsAt w T v L := by
  obtain ⟨⟨A, n, c, h1, h2, h3, h4⟩, h5⟩ := h
  refine ⟨⟨A, n, c, h1, h2, h3, fun hn => ?_⟩, fun x hx => (h5 x hx).mono hk⟩
  obtain ⟨b, off, hA, hS, hc⟩ := h4 hn
  exact ⟨b, off, hA, hk b hS, hc⟩
theorem CntsAt.up {w w' : World} {v : Value} {L : List Cnt} (h : CntsAt w (· < w.heap.size) v L) (hb : Below w.heap.size w w') : CntsAt w' (· < w'.heap.size) v L :=
  (h.keep fun b hB => hb.block b hB).mono fun b hB => Nat.lt_of_lt_of_le hB hb.size
/-- A row of the call's own; the statements' lists lie in blocks of S. -/
structure CntOwn (w : World) (B : Nat) (S : Nat → Prop) (v : Value) (L : List Cnt) : Prop where
  row : w.ownsRow B 63 10 v L.length (cntC L)
  at_ : ∀ x ∈ L, StmAt w S x.va x.vc x.vs x.st
section
variable {w w' w2 : World} {B : Nat} {S T : Nat → Prop} {v v' : Value} {L : List Cnt} {x : Cnt} {o : Obj}
theorem CntOwn.nil (w : World) (B : Nat) (S : Nat → Prop) : CntOwn w B S (.slice none 0 0) [] := ⟨World.ownsRow_nil _ _ _ _, fun x hx => by cases hx⟩
theorem CntOwn.keep (h : CntOwn w B S v L) {row : Option Nat} (hg : w.grownBy w' row) (hr : v.ownBlock = none ∨ v.ownBlock ≠ row) (hS : ∀ b, S b → b < w.heap.size ∧ row ≠ some b) : CntOwn w' B S v L :=
  ⟨h.row.kept hg hr, fun x hx => (h.at_ x hx).keep fun b hb => hg.block b (hS b hb).1 (fun e => (hS b hb).2 e.symm)⟩
theorem CntOwn.mono (h : CntOwn w B S v L) (hk : ∀ b, S b → T b) : CntOwn w B T v L := ⟨h.row, fun x hx => (h.at_ x hx).mono hk⟩
theorem CntOwn.below (h : CntOwn w B S v L) (hb : Below w.heap.size w w') (hS : ∀ b, S b → b < w.heap.size) : CntOwn w' B S v L :=
  h.keep (row := none) (only_of_below hb none) (by cases v.ownBlock <;> simp) (fun b hb' => ⟨hS b hb', by simp⟩)
theorem CntOwn.push (h : CntOwn w B S v L) (hx : StmAt w S x.va x.vc x.vs x.st) (hown : w2.ownsRow B 63 10 v' (L.length + 1) (cntC L ++ cntB x)) (hg : (w.alloc o).grownBy w2 v.ownBlock)
    (hS : ∀ b, S b → b < w.heap.size ∧ v.ownBlock ≠ some b) : CntOwn w2 B S v' (L ++ [x]) := by
  have hkb : ∀ b, S b → w2.heap[b]? = w.heap[b]? := fun b hb => (hg.block b (by have := (hS b hb).1; simp; omega) (fun e2 => (hS b hb).2 e2.symm)).trans (Below.heap_alloc w o b (hS b hb).1)
  refine ⟨by rw [cntC_snoc, List.length_append]; exact hown, fun y hy => ?_⟩
  rcases List.mem_append.1 hy with e | e
  · exact (h.at_ y e).keep hkb
  · rw [List.mem_singleton.1 e]; exact hx.keep hkb
theorem CntOwn.cnts (h : CntOwn w B S v L) (hS : ∀ b, S b → T b) (hB : ∀ b, v.ownBlock = some b → T b) : CntsAt w T v L := by
  refine ⟨?_, fun x hx => (h.at_ x hx).mono hS⟩
  rcases id h.row.2 with ⟨rfl, h0⟩ | ⟨g, cap, cur, rfl, hB', hh, hnc, _⟩
  · exact ⟨none, 0, 0, rfl, h0.symm, Nat.le_refl _, fun hn => absurd hn (Nat.lt_irrefl 0)⟩
  · refine ⟨_, L.length, cap, rfl, rfl, hnc, fun hn => ⟨g, 0, rfl, hB g rfl, fun k hk j hj => ?_⟩⟩
    rw [Nat.zero_add]
    have hget := cntC_at L k hk j hj
    have hlt : j < (cntB L[k]).length := hj
    rw [List.getElem?_eq_getElem hlt] at hget ⊢
    exact own_cell h.row _ _ hget
end
end Go.Proofs.YtgeahbmaeaoeeaaGreatDoor
namespace Go.Proofs.YtgeahbmaeaoeeaaGreatDoor.Pa
open Go.RowKit Num

theorem infoCt : (Tryz.prog.info? 63).map (fun i => (i.zero, i.size, i.bytes)) = some (some (.agg #[.int .i64 0, .int .i64 0, .bool false, .int .i64 0, .string ⟨#[]⟩, .int .i64 0, .int .i64 0, .slice none 0 0, .slice none 0 0, .slice none 0 0]), 10, 136) := by kernel_rfl
/-- Contents of the plays: small statements, small numbers. -/
structure CntSm (x : Cnt) : Prop where
  st : StmSm x.st
  num : 0 ≤ x.num ∧ x.num ≤ 1000000
  time : 0 ≤ x.time ∧ x.time ≤ 1000000
  sec : 0 ≤ x.sec ∧ x.sec < 500000003
/-- While they are made: the roll's box is the call's first block. -/
structure CSt (w W : World) (db : Nat) (vr v : Value) (L : List Cnt) : Prop where
  dc : Dc W db
  blk : Blk W w.heap.size 50 #[.int .i64 500000003, vr]
  own : CntOwn W (w.heap.size + 1) (fun b => w.heap.size + 1 ≤ b ∧ b < W.heap.size ∧ v.ownBlock ≠ some b) v L
  sm : ∀ x ∈ L, CntSm x
  gw : w.grownBy W (some db)
  dlt : db < w.heap.size
section
variable {w W W' : World} {db : Nat} {vr v v' : Value} {L : List Cnt} {x : Cnt}
theorem CSt.keep (h : CSt w W db vr v L) (hd : Dc W' db) {row : Option Nat} (hg : W.grownBy W' row) (hr : ∀ q, row = some q → q = db) : CSt w W' db vr v L := by
  have h1 := h.dlt
  have l1 := h.blk.lt
  have kb : ∀ q, q < W.heap.size → q ≠ db → W'.heap[q]? = W.heap[q]? := fun q hq hne => hg.block q hq (fun e => hne (hr q e.symm))
  have kr : v.ownBlock = none ∨ v.ownBlock ≠ row := by
    rcases hb : v.ownBlock with _ | q
    · exact .inl rfl
    · refine .inr fun e => ?_
      have e2 := hr q e.symm
      have := (h.own.row.lt q hb).1
      omega
  exact ⟨hd, (kb _ l1 (by omega)).trans h.blk, (h.own.keep hg kr fun b hb => ⟨hb.2.1, fun e => by have := hr b e; omega⟩).mono fun b hb => ⟨hb.1, Nat.lt_of_lt_of_le hb.2.1 hg.size, hb.2.2⟩, h.sm,
    ⟨hg.os.trans h.gw.os, hg.tape.trans h.gw.tape, hg.output.trans h.gw.output, Nat.le_trans h.gw.size hg.size, fun q hq hne => (kb q (by have := h.gw.size; omega) (fun e => hne (by rw [e]))).trans (h.gw.block q hq hne)⟩, h1⟩
theorem CSt.dice (h : CSt w W db vr v L) (hd : Dc W' db) (hg : W.grownBy W' (some db)) : CSt w W' db vr v L := h.keep hd hg (fun q hq => (Option.some.inj hq).symm)
theorem CSt.drew (h : CSt w W db vr v L) : CSt w W.drew db vr v L := h.keep h.dc.drew (row := none) (only_drewN (World.grownBy.refl W _) 1) (fun q hq => by cases hq)
theorem CSt.c0 (h : CSt w W db vr v L) : W.cell? ⟨w.heap.size, 0, none⟩ = some (.int .i64 500000003) := (h.blk.cell 0).trans rfl
/-- Beside it a statement is made. -/
theorem CSt.made (h : CSt w W db vr v L) {va vc vs : Value} {s : Stm} (hs : StmAt W' (fun b => W.heap.size ≤ b ∧ b < W'.heap.size) va vc vs s) (hd : Dc W' db) (hg : W.grownBy W' (some db)) :
    CSt w W' db vr v L ∧ StmAt W' (fun b => w.heap.size + 1 ≤ b ∧ b < W'.heap.size ∧ v.ownBlock ≠ some b) va vc vs s :=
  ⟨h.dice hd hg, hs.mono fun b hb => ⟨by have := h.blk.lt; omega, hb.2, fun e => by have := (h.own.row.lt b e).2; omega⟩⟩
/-- A content is put behind the others. -/
theorem CSt.push (h : CSt w W db vr v L) (hx : StmAt W (fun b => w.heap.size + 1 ≤ b ∧ b < W.heap.size ∧ v.ownBlock ≠ some b) x.va x.vc x.vs x.st) (hsm : CntSm x) {o : Obj} {g cap : Nat}
    (hown : W'.ownsRow (w.heap.size + 1) 63 10 (.slice (some ⟨g, 0, none⟩) (L.length + 1) cap) (L.length + 1) (cntC L ++ cntB x)) (hg : (W.alloc o).grownBy W' v.ownBlock) (hat : v.ownBlock = some g ∨ g = W.heap.size + 1) :
    CSt w W' db vr (.slice (some ⟨g, 0, none⟩) (L.length + 1) cap) (L ++ [x]) := by
  have hs := hg.size
  simp only [World.size_alloc] at hs
  have h1 := h.dlt
  have l1 := h.blk.lt
  have hv : ∀ q, v.ownBlock = some q → w.heap.size + 1 ≤ q := fun q hq => (h.own.row.lt q hq).1
  have kb : ∀ q, q < W.heap.size → v.ownBlock ≠ some q → W'.heap[q]? = W.heap[q]? := fun q hq hne => (hg.block q (by simp; omega) (fun e => hne e.symm)).trans (Below.heap_alloc W o q hq)
  have kl : ∀ q, q ≤ w.heap.size → W'.heap[q]? = W.heap[q]? := fun q hq => kb q (by omega) (fun e => by have := hv q e; omega)
  have hp := h.own.push hx hown hg fun b hb => ⟨hb.2.1, hb.2.2⟩
  refine ⟨h.dc.keep fun q hq => kl q (by omega), (kl _ (Nat.le_refl _)).trans h.blk, hp.mono fun b hb => ⟨hb.1, by omega, fun e => ?_⟩, fun y hy => ?_, ⟨hg.os.trans h.gw.os, hg.tape.trans h.gw.tape, hg.output.trans h.gw.output, by have := h.gw.size; omega, fun q hq hne => (kl q (by omega)).trans (h.gw.block q hq hne)⟩, h1⟩
  · have e2 : g = b := Option.some.inj e
    rcases hat with e3 | e3
    · exact hb.2.2 (by rw [e3, e2])
    · have := hb.2.1
      omega
  · rcases List.mem_append.1 hy with e | e
    · exact h.sm y e
    · rw [List.mem_singleton.1 e]; exact hsm
end
def ConE (w : World) (db : Nat) (e : Ending) (w' : World) : Prop := ∃ v L, e = .returned v ∧ CntOwn w' (w.heap.size + 1) (fun b => w.heap.size + 1 ≤ b ∧ b < w'.heap.size ∧ v.ownBlock ≠ some b) v L ∧ L.length ≤ 5 ∧ (∀ x ∈ L, CntSm x) ∧ Dc w' db ∧ w.grownBy w' (some db)
theorem stmE_drop {w w' : World} {db : Nat} {e : Ending} (h : StmE w db e w') : ∃ s Aa na ca Ac nc cc As ns cs, e = .returned (.agg #[.string s.resp, .int .i64 s.dep, .int .i64 s.day, .slice Aa na ca, .slice Ac nc cc, .slice As ns cs]) ∧ StmAt w' (fun b => w.heap.size ≤ b ∧ b < w'.heap.size) (.slice Aa na ca) (.slice Ac nc cc) (.slice As ns cs) s ∧ StmSm s ∧ Dc w' db ∧ w.grownBy w' (some db) := h
set_option maxRecDepth 100000 in
set_option maxHeartbeats 8000000 in
theorem p_Contents (db : Nat) (A0 : Option Addr) (n0 c0 : Nat) (w : World) (hd : Dc w db) : Calls Tryz.prog 15 #[.pointer (some ⟨db, 0, none⟩), .agg #[.int .i64 500000003, .slice A0 n0 c0], .int .i64 5] w (ConE w db) := by
  obtain ⟨i0, hi, hz0, hz1, hz2⟩ := info_parts infoCt
  have hlt := hd.lt
  have h1 : CSt w (w.alloc (.cells #[.int .i64 500000003, .slice A0 n0 c0] 50)) db (.slice A0 n0 c0) (.slice none 0 0) [] :=
    ⟨hd.alloc _, Blk.new w _ _, CntOwn.nil _ _ _, (fun x hx => by cases hx), World.grownBy_alloc w _ (some db), hlt⟩
  have H1 := Lib.hid h1
  have HN : Hid (∀ (n : Nat) (W : World), 1 ≤ n → n ≤ 1000 → Dc W db → Calls Tryz.prog 8 #[.pointer (some ⟨db, 0, none⟩), .int .i64 (n : Int)] W fun e W' => ∃ r : Nat, r < n ∧ e = .returned (.int .i64 (r : Int)) ∧ Dc W' db ∧ W.grownBy W' (some db)) := Lib.hid fun n W q1 q2 h => k_Next db n W h q1 (by omega)
  have HN6 : Hid (∀ (W : World), Dc W db → Calls Tryz.prog 8 #[.pointer (some ⟨db, 0, none⟩), .int .i64 6] W fun e W' => ∃ r : Nat, r < 6 ∧ e = .returned (.int .i64 (r : Int)) ∧ Dc W' db ∧ W.grownBy W' (some db)) := Lib.hid fun W h => k_Next db 6 W h (by omega) (by omega)
  have HO5 : Hid (∀ (W : World), Dc W db → Calls Tryz.prog 32 #[.pointer (some ⟨db, 0, none⟩), .int .i64 5] W fun e W' => ∃ x : Bool, e = .returned (.bool x) ∧ Dc W' db ∧ W.grownBy W' (some db)) := Lib.hid fun W h => p_One db 5 W h (by omega) (by omega)
  have HST : Hid (∀ (W : World), Dc W db → Calls Tryz.prog 33 #[.pointer (some ⟨db, 0, none⟩)] W (StmE W db)) := Lib.hid fun W h => p_Statement db W h
  have HMD : Hid (∀ (n : Int) (W : World), Calls Tryz.prog 21 #[.int .i64 n, .int .i64 500000003] W fun e w' => ∃ z : Int, e = .returned (.int .i64 z) ∧ (0 ≤ z ∧ z < 500000003) ∧ W = w') := Lib.hid fun n W => (k_Mod n 500000003 W (by omega) (by omega)).mono fun e w' hh => ⟨_, hh.1, ⟨Int.emod_nonneg _ (by omega), Int.emod_lt_of_pos _ (by omega)⟩, hh.2⟩
  clear hd h1
  go_enter Tryz.func15, Tryz.ntmps15
  go_wp2_with fail
  refine (HN.out 6 _ (by omega) (by omega) H1.out.dc).mono ?_
  rintro e w2 ⟨n, hn, rfl, hd2, hg2⟩
  have H2 := Lib.hid (H1.out.dice hd2 hg2)
  clear H1 hd2 hg2
  go_wp2_with fail
  go_loopw [7, 8, 9, 10] (fun v7 v8 v9 v10 wr => ∃ (A : Option Addr) (c : Nat) (L : List Cnt) (k num tim : Nat), v7 = .slice A L.length c ∧ v8 = .int .i64 (num : Int) ∧ v9 = .int .i64 (tim : Int) ∧ v10 = .int .i64 (k : Int) ∧ L.length + k ≤ 5 ∧ num ≤ L.length * 10 ∧ tim ≤ L.length * 10 ∧ CSt w wr db (.slice A0 n0 c0) (.slice A L.length c) L) (fun _ _ _ v10 _ => (intOf v10).toNat)
  case atStart => exact ⟨none, 0, [], n, 0, 0, rfl, rfl, rfl, rfl, by simp; omega, by omega, by omega, H2.out⟩
  case round =>
    obtain ⟨A, c, L, k, num, tim, rfl, rfl, rfl, rfl, hk, hnum, htim, hr⟩ := hrel
    rename World => wr
    have HR := Lib.hid hr
    have HK := Lib.hid hk
    have HNU := Lib.hid hnum
    have HTI := Lib.hid htim
    have hn5 : num ≤ 50 := by omega
    have ht5 : tim ≤ 50 := by omega
    have k5 : k ≤ 5 := by omega
    clear hr hk hnum htim
    obtain ⟨m, hm⟩ : ∃ m, L.length = m := ⟨_, rfl⟩
    have m5 : m ≤ 5 := by have := HK.out; omega
    have HM := Lib.hid hm
    rw [hm]
    clear hm
    by_cases hpos : 0 < k
    · have zi : (0 : Int) < (k : Int) := by omega
      go_wp2_with fail
      refine (HN.out 2 _ (by omega) (by omega) HR.out.dc).mono ?_
      rintro e w3 ⟨r3, hr3, rfl, hd3, hg3⟩
      have H3 := Lib.hid (HR.out.dice hd3 hg3)
      clear HR hd3 hg3
      go_wp2_with fail
      refine (HN.out 4 _ (by omega) (by omega) H3.out.dc).mono ?_
      rintro e w4 ⟨r4, hr4, rfl, hd4, hg4⟩
      have H4 := Lib.hid (H3.out.dice hd4 hg4)
      clear H3 hd4 hg4
      obtain ⟨nm, hnm⟩ : ∃ nm : Nat, num + 1 + r3 = nm := ⟨_, rfl⟩
      obtain ⟨tm, htm⟩ : ∃ tm : Nat, tim + r4 = tm := ⟨_, rfl⟩
      have qn : (num : Int) + 1 + (r3 : Int) = (nm : Int) := by omega
      have qt : (tim : Int) + (r4 : Int) = (tm : Int) := by omega
      have nm6 : nm ≤ 60 := by omega
      have tm6 : tm ≤ 60 := by omega
      have HNM := Lib.hid hnm
      have HTM := Lib.hid htm
      clear hnm htm
      have H4d := Lib.hid H4.out.drew
      have b0 := H4d.out.c0
      go_upto_region 7 with fail
      go_region_law (first
        | (refine step_append_lies _ (by rfl) _ _ _ (by rfl) (w.heap.size + 1) 63 i0 _ 10 136 Tryz.underlying52 hi hz0 hz1 hz2 rfl (by omega) (.slice A m c) m (cntC L) (by rfl) (E9.out.alloc _) ⟨w9.heap.size, 0, none⟩ 1 1 (cntB ⟨(nm : Int), (tm : Int), b5, z, s, .slice Aa na ca, .slice Ac nc cc, .slice As ns cs⟩) (by rfl) (by rfl) (World.news_of_block (cs := #[.int .i64 (nm : Int), .int .i64 (tm : Int), .bool b5, .int .i64 z, .string s.resp, .int .i64 s.dep, .int .i64 s.day, .slice Aa na ca, .slice Ac nc cc, .slice As ns cs]) (t := 63) (fr := (0, 0)) (heap_alloc_new w9 _)) (by intro u hu; simp [cntB] at hu; rcases hu with rfl | rfl | rfl | rfl | rfl | rfl | rfl | rfl | rfl | rfl <;> rfl) (by omega) (by simp only [maxLen]; omega) (by omega) (by have := d9; simp; omega) (w9.heap.size + 1) (by simp) ?_; intro gg cap w10 hown10 hgr10 hat10 hlt10; have MO := Lib.hid (And.intro hown10 (And.intro hgr10 hat10)); clear hown10 hgr10 hat10)
        | ((try go_simp); go_at_call 32; ((with_reducible refine (HO5.out _ H4d.out.dc).mono ?_); rintro e w5 ⟨b5, rfl, hd5, hg5⟩; have H5 := Lib.hid (H4d.out.dice hd5 hg5); have b1 := H5.out.c0; clear hd5 hg5))
        | ((try go_simp); go_at_call 8; ((with_reducible refine (HN6.out _ H5.out.dc).mono ?_); rintro e w6 ⟨r6, hr6, rfl, hd6, hg6⟩; have H6 := Lib.hid (H5.out.dice hd6 hg6); have b2 := H6.out.c0; clear hd6 hg6))
        | ((try go_simp); go_at_call 21; ((with_reducible refine (HMD.out _ _).mono ?_); rintro e wk ⟨z, rfl, hz, rfl⟩))
        | ((try go_simp); go_at_call 33; ((with_reducible refine (HST.out _ H6.out.dc).mono ?_); rintro e w9 hse; obtain ⟨s, Aa, na, ca, Ac, nc, cc, As, ns, cs, rfl, hst, hsm, hd9, hg9⟩ := stmE_drop hse; have H9 := Lib.hid (H6.out.made hst hd9 hg9); have HSM := Lib.hid hsm; have d9 : w.heap.size + 1 ≤ w9.heap.size := H9.out.1.blk.lt; have E9 : Hid (w9.ownsRow (w.heap.size + 1) 63 10 (.slice A m c) m (cntC L)) := Lib.hid (by have := H9.out.1.own.row; rw [HM.out] at this; exact this); clear hse hst hsm hd9 hg9)))
      all_goals
        have hp := (show CSt w w9 db (.slice A0 n0 c0) (.slice A m c) L from by have := H9.out.1; rw [HM.out] at this; exact this).push (x := ⟨(nm : Int), (tm : Int), b5, z, s, .slice Aa na ca, .slice Ac nc cc, .slice As ns cs⟩) (by have := H9.out.2; rw [HM.out] at this; exact this) ⟨HSM.out, ⟨by show (0 : Int) ≤ nm; omega, by show (nm : Int) ≤ _; omega⟩, ⟨by show (0 : Int) ≤ tm; omega, by show (tm : Int) ≤ _; omega⟩, hz⟩ (by rw [HM.out]; exact MO.out.1) MO.out.2.1 MO.out.2.2
        have HP := Lib.hid hp
        clear hp
        go_wp2_with fail
        go_roundw
        case measure => simp [intOf]; omega
        case rel => exact ⟨_, cap, L ++ [⟨(nm : Int), (tm : Int), b5, z, s, .slice Aa na ca, .slice Ac nc cc, .slice As ns cs⟩], k - 1, nm, tm, by rw [List.length_append, HM.out]; rfl, rfl, rfl, by go_num, by rw [List.length_append, HM.out]; have := HK.out; rw [HM.out] at this; show m + 1 + (k - 1) ≤ 5; omega, by rw [List.length_append, HM.out]; have := HNU.out; rw [HM.out] at this; have := HNM.out; show nm ≤ (m + 1) * 10; omega, by rw [List.length_append, HM.out]; have := HTI.out; rw [HM.out] at this; have := HTM.out; show tm ≤ (m + 1) * 10; omega, by have := HP.out; rw [List.length_append]; exact this⟩
    · have zi : ¬ (0 : Int) < (k : Int) := by omega
      go_wp2_with fail
      go_ret
      refine ⟨_, L, rfl, by have := HR.out.own; rw [HM.out] at this; exact this, by rw [HM.out]; exact m5, HR.out.sm, HR.out.dc, HR.out.gw⟩
end Go.Proofs.YtgeahbmaeaoeeaaGreatDoor.Pa
