/- Plain: statements of the plays have padded bytes; contents are alike themselves. Contract: law41.turn: another text of the same length. -/
import Derived.Test.YtgeahbmaeaoeeaaGreatDoorQ29
import Derived.Test.YtgeahbmaeaoeeaaGreatDoorQ38
import Derived.Test.YtgeahbmaeaoeeaaGreatDoorQ20
import Derived.Test.YtgeahbmaeaoeeaaGreatDoorQ11
import Derived.Test.YtgeahbmaeaoeeaaGreatDoorQ09
set_option linter.unusedVariables false
set_option linter.unusedSimpArgs false
namespace Go.Proofs.YtgeahbmaeaoeeaaGreatDoor.Pa
open Go.RowKit Num

theorem flat_le {α : Type} (f : α → List UInt8) (c : Nat) : ∀ (L : List α), (∀ a ∈ L, (f a).length ≤ c) → (L.flatMap f).length ≤ L.length * c := by
  intro L
  induction L with
  | nil => intro _; simp
  | cons a r ih =>
    intro h
    have h1 := h a (List.mem_cons_self ..)
    have h2 := ih fun b hb => h b (List.mem_cons_of_mem _ hb)
    rw [List.flatMap_cons, List.length_append, List.length_cons, Nat.succ_mul]
    omega
theorem StmSm.len {s : Stm} (h : StmSm s) : (stmW s).length ≤ 11000 := by
  have h1 := textL_len s.resp
  have h2 := putB_len s.dep
  have h3 := putB_len s.day
  have h4 := putB_len (s.ans.length : Int)
  have h5 := putB_len (s.shw.length : Int)
  have h6 := textL_len (prnS s.cond)
  have h7 := prnS_size s.cond
  have h8 := h.resp
  have h9 := h.an
  have h10 := h.sn
  have ha := flat_le ansL 100 s.ans fun a ha => by
    obtain ⟨p, q, -⟩ := h.ans a ha
    have := textL_len a.field
    have := textL_len a.text
    have := putB_len a.num
    unfold ansL
    simp only [List.length_append]
    omega
  have hs := flat_le shwL 100 s.shw fun a ha => by
    obtain ⟨p, q⟩ := h.shw a ha
    have := textL_len a.field
    have := textL_len a.role
    have := q.1
    unfold shwL
    simp only [List.length_append]
    omega
  unfold stmW stmC stmB stmA headL
  rw [List.take_length, List.take_length]
  simp only [List.length_append]
  omega
theorem StmSm.pad {s : Stm} (h : StmSm s) : padOk s = true := by
  have h1 := h.len
  obtain ⟨a, b⟩ := bytS_good h.tree (by have := h.an; have := h.sn; omega) (by omega)
  unfold padOk
  rw [a, b, bO_size]
  have : padN (stmW s).length ≤ 16384 := by unfold padN; omega
  simp [this]
theorem alL_refl {L : List Cnt} (h : ∀ x ∈ L, CntSm x) : AlL L L := ⟨rfl, fun i h1 h2 => by
  have := (h _ (List.getElem_mem h1)).st.pad
  exact ⟨this, this, rfl, rfl, rfl, rfl, fun _ => rfl⟩⟩
theorem alL_nil : AlL [] [] := ⟨rfl, fun i h => absurd h (Nat.not_lt_zero _)⟩
/-- One time is another: no more alike. -/
theorem alL_bump {L M : List Cnt} {r : Nat} (h : r < L.length) (h' : r < M.length) (ht : L[r].time ≠ M[r].time) : ¬ AlL L M := fun e => ht (e.2 r h h').2.2.2.2.1
theorem stmsW {L : List Cnt} (h : ∀ x ∈ L, CntSm x) : StmsW L := fun x hx => ⟨(h x hx).st.ok, fun t ht => by obtain ⟨_, _, _, _, c⟩ := (h x hx).st.cond t ht; omega⟩
/-! ### A list of contents is copied by an append to nil -/
theorem cnts_src {w : World} {S : Nat → Prop} {b off n c : Nat} {L : List Cnt} (h : CntsAt w S (.slice (some ⟨b, off, none⟩) n c) L) :
    ∀ j u, (cntC L)[j]? = some u → w.cell? ((⟨b, off, none⟩ : Addr).add j) = some u := by
  obtain ⟨⟨A, n', c', he, hn, hnc, h4⟩, -⟩ := h
  injection he with e1 e2 e3
  subst e2 e3
  intro j u hj
  have hjl : j < (cntC L).length := (List.getElem?_eq_some_iff.1 hj).1
  rw [cntC_len] at hjl
  obtain ⟨b', off', hA, hS, hc⟩ := h4 (by omega)
  rw [← e1] at hA
  injection hA with hA; injection hA with a1 a2
  subst a1 a2
  have hk : j / 10 < L.length := by omega
  have hr : j % 10 < 10 := Nat.mod_lt _ (by omega)
  have e := cntC_at L (j / 10) hk (j % 10) hr
  have q := hc (j / 10) hk (j % 10) hr
  have hd : j / 10 * 10 + j % 10 = j := by omega
  rw [hd] at e q
  rw [Go.WideShapes.add_plain, q, ← e]
  exact hj
theorem cntC_one {w : World} {S : Nat → Prop} {L : List Cnt} (h : ∀ x ∈ L, StmAt w S x.va x.vc x.vs x.st) : ∀ u ∈ cntC L, u.oneCell' = true := by
  intro u hu
  unfold cntC at hu
  obtain ⟨a, hm, ha⟩ := List.mem_flatMap.1 hu
  obtain ⟨Aa, na, ca, hva, -⟩ := (h a hm).aa
  obtain ⟨Ac, nc, cc, hvc, -⟩ := (h a hm).cc
  obtain ⟨As, ns, cs, hvs, -⟩ := (h a hm).ss
  simp [cntB] at ha
  rcases ha with rfl | rfl | rfl | rfl | rfl | rfl | rfl | rfl | rfl | rfl
  all_goals first | rfl | (rw [hva]; rfl) | (rw [hvc]; rfl) | (rw [hvs]; rfl)
theorem run_copy_cnts (w : World) (ty : TypeId) (S : Nat → Prop) (A : Option Addr) (n c : Nat) (L : List Cnt) (hv : CntsAt w S (.slice A n c) L) (hl : L.length ≤ 1000000) :
    ∃ v' w', (Builtin.append_ #[52, 52] ty #[.slice none 0 0, .slice A n c]).run Tryz.prog w = .ok v' w' ∧ w'.ownsRow w.heap.size 63 10 v' L.length (cntC L) ∧ Below w.heap.size w w' := by
  obtain ⟨j0, hj, hy0, hy1, hy2⟩ := info_parts infoCt
  obtain ⟨⟨A', n', c', he, hn, hnc, h4⟩, h5⟩ := id hv
  injection he with e1 e2 e3
  subst e2 e3
  cases A with
  | none =>
    have hn0 : n = 0 := by
      refine Nat.eq_zero_of_not_pos fun h => ?_
      obtain ⟨b, off, hA, -⟩ := h4 h
      rw [← e1] at hA
      cases hA
    subst hn0
    have hL : L = [] := List.eq_nil_of_length_eq_zero hn.symm
    subst hL
    refine ⟨.slice none 0 0, w, ?_, World.ownsRow_nil _ _ _ _, Below.refl _ _⟩
    simp [Builtin.append_, run_underlying Tryz.underlying52, sizeOf, typeInfo, hj, Builtin.lenOf, Builtin.firstCells]
  | some ad =>
    obtain ⟨b, off, r⟩ := ad
    by_cases hp : 0 < n
    · obtain ⟨b', off', hA, -⟩ := h4 hp
      rw [← e1] at hA
      injection hA with hA; injection hA with a1 a2 a3
      subst a1 a2 a3
      obtain ⟨v', w', hr, ho, hg, -, -⟩ := run_append_own_at (P := Tryz.prog) (w := w) w.heap.size 52 ty 63 j0 (.agg #[.int .i64 0, .int .i64 0, .bool false, .int .i64 0, .string ⟨#[]⟩, .int .i64 0, .int .i64 0, .slice none 0 0, .slice none 0 0, .slice none 0 0]) 10 136 Tryz.underlying52 hj hy0 hy1 hy2 rfl (by decide) (.slice none 0 0) 0 [] (World.ownsRow_nil _ _ _ _) ⟨b, off, none⟩ n c (cntC L) (by rw [cntC_len, hn]) (cnts_src hv) (cntC_one h5) (by simp only [maxLen]; omega) (by omega) (Nat.le_refl _)
      rw [Nat.zero_add, List.nil_append, hn] at ho
      refine ⟨v', w', hr, ho, ⟨hg.os, hg.tape, hg.output, hg.size, fun q hq => hg.block q hq (by simp [Value.ownBlock])⟩⟩
    · have hn0 : n = 0 := by omega
      subst hn0
      have hL : L = [] := List.eq_nil_of_length_eq_zero hn.symm
      subst hL
      obtain ⟨v', w', hr, ho, hg, -, -⟩ := run_append_own_at (P := Tryz.prog) (w := w) w.heap.size 52 ty 63 j0 (.agg #[.int .i64 0, .int .i64 0, .bool false, .int .i64 0, .string ⟨#[]⟩, .int .i64 0, .int .i64 0, .slice none 0 0, .slice none 0 0, .slice none 0 0]) 10 136 Tryz.underlying52 hj hy0 hy1 hy2 rfl (by decide) (.slice none 0 0) 0 [] (World.ownsRow_nil _ _ _ _) ⟨b, off, r⟩ 0 c [] rfl (fun j u h => by simp at h) (fun u h => by cases h) (by simp only [maxLen]; omega) (by omega) (Nat.le_refl _)
      exact ⟨v', w', hr, ho, ⟨hg.os, hg.tape, hg.output, hg.size, fun q hq => hg.block q hq (by simp [Value.ownBlock])⟩⟩
theorem wpList_copy_cnts {w : World} {ops : Array Oper} {rest : List Oper} {o : Oper} {a : Act} {Q : Exit → Act → World → Prop} (hgd : o.guard = none) (s x : Operand)
    (ho : o.op = .call { callee := .builtin .append, args := #[s, x], argTypes := #[52, 52] })
    (hs : a.eval s = .slice none 0 0) (S : Nat → Prop) (A : Option Addr) (n c : Nat) (L : List Cnt) (hv : CntsAt w S (.slice A n c) L) (hx : a.eval x = .slice A n c) (hl : L.length ≤ 1000000)
    (h : ∀ v' w', w'.ownsRow w.heap.size 63 10 v' L.length (cntC L) → Below w.heap.size w w' → wpList Tryz.prog ops Q rest (a.put o.dst v') w') : wpList Tryz.prog ops Q (o :: rest) a w := by
  refine wpList_plain hgd fun K hK => ?_
  obtain ⟨v', w', hr, h2, h3⟩ := run_copy_cnts w o.type S A n c L hv hl
  unfold Oper.wp execOp
  simp only [ho, resolve, invoke, builtin, Sem.run_bind, Sem.run_pure, Result.andThen_ok, List.map_toArray, List.map_cons, List.map_nil, hs, hx, hr]
  exact hK _ _ (h v' w' h2 h3)
/-- The time of one content is written. -/
theorem cnts_bump {w : World} {B g cap r : Nat} {L : List Cnt} (hrow : w.ownsRow B 63 10 (.slice (some ⟨g, 0, none⟩) L.length cap) L.length (cntC L)) (hr : r < L.length) {S : Nat → Prop} (hS : ∀ b, S b → b ≠ g ∧ b < w.heap.size) (hst : ∀ x ∈ L, StmAt w S x.va x.vc x.vs x.st) (t : Int) :
    CntsAt (w.setCell ⟨g, r * 10 + 1, none⟩ (.int .i64 t)) (· < (w.setCell ⟨g, r * 10 + 1, none⟩ (.int .i64 t)).heap.size) (.slice (some ⟨g, 0, none⟩) L.length cap) (L.set r { L[r] with time := t }) := by
  have hset : w.grownBy (w.setCell ⟨g, r * 10 + 1, none⟩ (.int .i64 t)) (some g) := grown_setCell w ⟨g, r * 10 + 1, none⟩ (.int .i64 t)
  have hgl : g < w.heap.size := (hrow.lt g rfl).2
  have hcell : ∀ k (h : k < L.length) j, j < 10 → w.cell? ⟨g, k * 10 + j, none⟩ = (cntB L[k])[j]? := fun k hk j hj => by
    have hget := cntC_at L k hk j hj
    have hlt : j < (cntB L[k]).length := hj
    rw [List.getElem?_eq_getElem hlt] at hget ⊢
    exact own_cell hrow _ _ hget
  have hst' : ∀ x ∈ L, StmAt (w.setCell ⟨g, r * 10 + 1, none⟩ (.int .i64 t)) (· < (w.setCell ⟨g, r * 10 + 1, none⟩ (.int .i64 t)).heap.size) x.va x.vc x.vs x.st := fun x hx =>
    ((hst x hx).keep fun b hb => hset.block b (hS b hb).2 (fun e => by injection e with e; exact (hS b hb).1 e)).mono fun b hb => Nat.lt_of_lt_of_le (hS b hb).2 hset.size
  have hcap : L.length ≤ cap := by
    rcases id hrow.2 with ⟨h, h0⟩ | ⟨g', cap', cur, h, hB', hh, hnc, _⟩
    · cases h
    · injection h with e1 e2 e3
      omega
  refine ⟨⟨_, _, _, rfl, by simp, hcap, fun _ => ⟨g, 0, rfl, Nat.lt_of_lt_of_le hgl hset.size, fun k hk j hj => ?_⟩⟩, fun x hx => ?_⟩
  · have hk' : k < L.length := by simpa using hk
    rw [Nat.zero_add, List.getElem_set]
    by_cases e : r = k
    · subst e
      rw [if_pos rfl]
      by_cases e1 : j = 1
      · subst e1
        rw [World.cell?_setCell_same _ _ _ ((hcell r hr 1 (by omega)).trans (show _ = some (Value.int .i64 L[r].time) from rfl))]
        rfl
      · rw [World.cell?_setCell_other _ _ _ _ (by intro h; injection h with h1 h2; omega), hcell r hr j hj]
        rcases (show j = 0 ∨ j = 2 ∨ j = 3 ∨ j = 4 ∨ j = 5 ∨ j = 6 ∨ j = 7 ∨ j = 8 ∨ j = 9 by omega) with rfl | rfl | rfl | rfl | rfl | rfl | rfl | rfl | rfl <;> rfl
    · rw [if_neg e, World.cell?_setCell_other _ _ _ _ (by intro h; injection h with h1 h2; omega), hcell k hk' j hj]
  · rcases List.mem_or_eq_of_mem_set hx with e | e
    · exact hst' x e
    · subst e
      exact hst' L[r] (List.getElem_mem hr)
end Go.Proofs.YtgeahbmaeaoeeaaGreatDoor.Pa
namespace Go.Proofs.YtgeahbmaeaoeeaaGreatDoor
open Go.RowKit Num

theorem bytes_frozen (w : World) (e : TypeId) (s : ByteArray) (j : Nat) (hj : j < s.size) : (Lib.bytesWorld w e s).frozen? ⟨w.heap.size, j, none⟩ = false := by
  unfold World.frozen?
  rw [Lib.bytesWorld_at_new]
  have : s.size ≤ (Lib.bytesCells w e s).size := by unfold Lib.bytesCells; rw [Array.size_append, Array.size_map]; exact Nat.le_add_right _ _
  simp
  intro h
  omega
def TurnE (n : Nat) (w : World) (e : Ending) (w' : World) : Prop := ∃ x : ByteArray, x.size = n ∧ e = .returned (.string x) ∧ Below w.heap.size w w'
set_option maxRecDepth 100000 in
set_option maxHeartbeats 2000000 in
theorem a_turn (s : ByteArray) (w : World) (hs : s.size ≤ 1000000) :
    Calls Tryz.prog 34 #[.string s] w (TurnE s.size w) := by
  have hcv := Lib.run_convert_string_bytes (P := Tryz.prog) w 9 110 5 s Tryz.underlying9 Tryz.underlying110 Tryz.underlying5
  have hbw := below_bytes w s 5
  have hcl := fun j hj => Lib.bytesWorld_cell w 5 s j hj
  have hfr := fun j hj => bytes_frozen w 5 s j hj
  obtain ⟨n, hn⟩ : ∃ n, s.size = n := ⟨_, rfl⟩
  obtain ⟨cap, hcap⟩ : ∃ cap, grownCap w s.size 0 5 = cap := ⟨_, rfl⟩
  obtain ⟨wb, hwb⟩ : ∃ wb, Lib.bytesWorld w 5 s = wb := ⟨_, rfl⟩
  rw [hcap, hwb, hn] at hcv
  rw [hwb] at hbw hcl hfr
  rw [hn] at hs hcl hfr
  have HBW := Lib.hid hbw
  have HCL := Lib.hid hcl
  have HFR := Lib.hid hfr
  have HNN := Lib.hid hn
  clear hbw hcl hfr hcap hwb
  go_enter Tryz.func34, Tryz.ntmps34
  go_wp2_with fail
  clear hcv
  go_loopw [4] (fun v4 wr => ∃ (i : Nat) (f : Nat → Nat), i ≤ n ∧ v4 = .int .i64 (i : Int) ∧ (∀ j, j < n → f j < 256 ∧ wr.cell? ⟨w.heap.size, j, none⟩ = some (.int .u8 (f j : Int)) ∧ wr.frozen? ⟨w.heap.size, j, none⟩ = false) ∧ Below w.heap.size w wr) (fun v4 _ => n - (intOf v4).toNat)
  case atStart => exact ⟨0, fun j => (s.data.toList.getD j 0).toNat, by omega, rfl, fun j hj => ⟨UInt8.toNat_lt _, HCL.out j hj, HFR.out j hj⟩, HBW.out⟩
  case round =>
    obtain ⟨i, f, hi, rfl, hc, hb⟩ := hrel
    rename World => wr
    have HC := Lib.hid hc
    have HB := Lib.hid hb
    clear hc hb
    by_cases hlt : i < n
    · have zi : (i : Int) < (n : Int) := by omega
      have z0 : (0 : Int) ≤ (i : Int) := by omega
      obtain ⟨hf, c0, f0⟩ := HC.out i hlt
      obtain ⟨k, hk⟩ : ∃ k, f i = k := ⟨_, rfl⟩
      rw [hk] at hf c0
      have q0 : (0 : Int) ≤ (k : Int) := by omega
      have hm : ((k : Int).tmod 26) = ((k % 26 : Nat) : Int) := by rw [Int.tmod_eq_emod_of_nonneg q0]; omega
      have hr : k % 26 < 26 := Nat.mod_lt _ (by omega)
      obtain ⟨r, hrr⟩ : ∃ r, k % 26 = r := ⟨_, rfl⟩
      rw [hrr] at hm hr
      have HRR := Lib.hid hrr
      clear hrr hk
      go_wp2_with fail
      go_roundw
      case measure => simp [intOf]; omega
      case rel => exact ⟨i + 1, fun j => if j = i then 97 + r else f j, by omega, by go_num, (fun j hj => by
        by_cases e : j = i
        · subst e
          refine ⟨by dsimp only; rw [if_pos rfl]; omega, ?_, by rw [World.frozen?_setCell]; exact f0⟩
          dsimp only
          rw [if_pos rfl, World.cell?_setCell_same _ _ _ c0]
          congr 2
        · obtain ⟨a, b, d⟩ := HC.out j hj
          refine ⟨by dsimp only; rw [if_neg e]; exact a, ?_, by rw [World.frozen?_setCell]; exact d⟩
          dsimp only
          rw [if_neg e, World.cell?_setCell_other _ _ _ _ (by intro h; injection h with h1 h2; exact e h2.symm)]
          exact b), HB.out.setCell (Nat.le_refl _) _⟩
    · have zi : ¬ (i : Int) < (n : Int) := by omega
      have hcv := run_convert_bytes_arg (P := Tryz.prog) wr 110 5 Tryz.underlying110 Tryz.underlying5 w.heap.size 0 n cap ((List.range n).map fun j => (f j : Int)) (by simp) (fun j hj => by
          have hj' : j < n := by simpa using hj
          rw [Nat.zero_add, (HC.out j hj').2.1, List.getD_eq_getElem?_getD, List.getElem?_map, List.getElem?_range hj']; rfl) 9 Tryz.underlying9
      have hsz : (strOfNums ((List.range n).map fun j => (f j : Int))).size = n := by
        rw [strOfNums_size, List.length_map, List.length_range]
      obtain ⟨x, hx⟩ : ∃ x, strOfNums ((List.range n).map fun j => (f j : Int)) = x := ⟨_, rfl⟩
      rw [hx] at hcv hsz
      have HSZ := Lib.hid hsz
      clear hx hsz
      go_wp2_with fail
      go_ret
      exact ⟨x, HSZ.out, rfl, HB.out⟩
end Go.Proofs.YtgeahbmaeaoeeaaGreatDoor
