/- Words for memory: statements. Plain: their bytes. Words for memory: trees as a reader makes them (no term has numbers of terms behind it). Words for memory: a list of terms of the call's own, each with numbers of its own. -/
import Derived.Test.YtgeahbmaeaoeeaaGreatDoorQ08
import Derived.Test.YtgeahbmaeaoeeaaGreatDoorQ13
import Derived.Test.YtgeahbmaeaoeeaaGreatDoorQ19
import Derived.Test.YtgeahbmaeaoeeaaGreatDoorQ15
set_option linter.unusedVariables false
set_option linter.unusedSimpArgs false
namespace Go.Proofs.YtgeahbmaeaoeeaaGreatDoor
open Go.RowKit Num

structure Ans where
  field : ByteArray
  text : ByteArray
  num : Int
structure Shw where
  field : ByteArray
  role : ByteArray
def ansAt (L : List Ans) (k : Nat) : Ans := L.getD k ⟨⟨#[]⟩, ⟨#[]⟩, 0⟩
def shwAt (L : List Shw) (k : Nat) : Shw := L.getD k ⟨⟨#[]⟩, ⟨#[]⟩⟩
def AnssAt (w : World) (S : Nat → Prop) (v : Value) (L : List Ans) : Prop :=
  ∃ (A : Option Addr) (n c : Nat), v = .slice A n c ∧ n = L.length ∧ n ≤ c ∧ (0 < n → ∃ b off, A = some ⟨b, off, none⟩ ∧ S b ∧ ∀ k, k < n → w.cell? ⟨b, off + k * 3, none⟩ = some (.string (ansAt L k).field) ∧ w.cell? ⟨b, off + k * 3 + 1, none⟩ = some (.string (ansAt L k).text) ∧ w.cell? ⟨b, off + k * 3 + 2, none⟩ = some (.int .i64 (ansAt L k).num))
def ShwsAt (w : World) (S : Nat → Prop) (v : Value) (L : List Shw) : Prop :=
  ∃ (A : Option Addr) (n c : Nat), v = .slice A n c ∧ n = L.length ∧ n ≤ c ∧ (0 < n → ∃ b off, A = some ⟨b, off, none⟩ ∧ S b ∧ ∀ k, k < n → w.cell? ⟨b, off + k * 2, none⟩ = some (.string (shwAt L k).field) ∧ w.cell? ⟨b, off + k * 2 + 1, none⟩ = some (.string (shwAt L k).role))
theorem AnssAt.keep {w w' : World} {S : Nat → Prop} {v : Value} {L : List Ans} (h : AnssAt w S v L) (hk : ∀ b, S b → w'.heap[b]? = w.heap[b]?) : AnssAt w' S v L := by
  obtain ⟨A, n, c, h1, h2, h3, h4⟩ := h
  refine ⟨A, n, c, h1, h2, h3, fun hn => ?_⟩
  obtain ⟨b, off, hA, hS, hc⟩ := h4 hn
  exact ⟨b, off, hA, hS, fun k hk' => ⟨(World.cell?_of_block (hk b hS)).trans (hc k hk').1, (World.cell?_of_block (hk b hS)).trans (hc k hk').2.1, (World.cell?_of_block (hk b hS)).trans (hc k hk').2.2⟩⟩
theorem AnssAt.mono {w : World} {S T : Nat → Prop} {v : Value} {L : List Ans} (h : AnssAt w S v L) (hk : ∀ b, S b → T b) : AnssAt w T v L := by
  obtain ⟨A, n, c, h1, h2, h3, h4⟩ := h
  refine ⟨A, n, c, h1, h2, h3, fun hn => ?_⟩
  obtain ⟨b, off, hA, hS, hc⟩ := h4 hn
  exact ⟨b, off, hA, hk b hS, hc⟩
theorem ShwsAt.keep {w w' : World} {S : Nat → Prop} {v : Value} {L : List Shw} (h : ShwsAt w S v L) (hk : ∀ b, S b → w'.heap[b]? = w.heap[b]?) : ShwsAt w' S v L := by
  obtain ⟨A, n, c, h1, h2, h3, h4⟩ := h
  refine ⟨A, n, c, h1, h2, h3, fun hn => ?_⟩
  obtain ⟨b, off, hA, hS, hc⟩ := h4 hn
  exact ⟨b, off, hA, hS, fun k hk' => ⟨(World.cell?_of_block (hk b hS)).trans (hc k hk').1, (World.cell?_of_block (hk b hS)).trans (hc k hk').2⟩⟩
theorem ShwsAt.mono {w : World} {S T : Nat → Prop} {v : Value} {L : List Shw} (h : ShwsAt w S v L) (hk : ∀ b, S b → T b) : ShwsAt w T v L := by
  obtain ⟨A, n, c, h1, h2, h3, h4⟩ := h
  refine ⟨A, n, c, h1, h2, h3, fun hn => ?_⟩
  obtain ⟨b, off, hA, hS, hc⟩ := h4 hn
  exact ⟨b, off, hA, hk b hS, hc⟩
/-- A statement. -/
structure Stm where
  resp : ByteArray
  dep : Int
  day : Int
  ans : List Ans
  cond : List Trm
  shw : List Shw
/-- Its lists in memory: answers, the condition's terms, shows. -/
structure StmAt (w : World) (S : Nat → Prop) (va vc vs : Value) (s : Stm) : Prop where
  aa : AnssAt w S va s.ans
  cc : TermsAt w S vc s.cond
  ss : ShwsAt w S vs s.shw
theorem StmAt.keep {w w' : World} {S : Nat → Prop} {va vc vs : Value} {s : Stm} (h : StmAt w S va vc vs s) (hk : ∀ b, S b → w'.heap[b]? = w.heap[b]?) : StmAt w' S va vc vs s := ⟨h.aa.keep hk, h.cc.keep hk, h.ss.keep hk⟩
theorem StmAt.mono {w : World} {S T : Nat → Prop} {va vc vs : Value} {s : Stm} (h : StmAt w S va vc vs s) (hk : ∀ b, S b → T b) : StmAt w T va vc vs s := ⟨h.aa.mono hk, h.cc.mono hk, h.ss.mono hk⟩
abbrev In64' (n : Int) : Prop := -9223372036854775808 ≤ n ∧ n < 9223372036854775808
/-- What is small enough for the walks. -/
structure StmOk (s : Stm) : Prop where
  resp : s.resp.size ≤ 1000000
  dep : In64' s.dep
  day : In64' s.day
  an : s.ans.length ≤ 1000000
  ans : ∀ k, k < s.ans.length → (ansAt s.ans k).field.size ≤ 1000000 ∧ (ansAt s.ans k).text.size ≤ 1000000 ∧ In64' (ansAt s.ans k).num
  sn : s.shw.length ≤ 1000000
  shw : ∀ k, k < s.shw.length → (shwAt s.shw k).field.size ≤ 1000000 ∧ (shwAt s.shw k).role.size ≤ 1000000
  cn : s.cond.length ≤ 1000000
  cond : ∀ t ∈ s.cond, TrmOk t
/-! ### Bytes -/
def ansL (a : Ans) : List UInt8 := textL a.field ++ textL a.text ++ putB a.num
def shwL (a : Shw) : List UInt8 := textL a.field ++ textL a.role
def headL (s : Stm) : List UInt8 := textL s.resp ++ putB s.dep ++ putB s.day ++ putB (s.ans.length : Int)
def stmA (s : Stm) (k : Nat) : List UInt8 := headL s ++ (s.ans.take k).flatMap ansL
def stmB (s : Stm) (txt : ByteArray) : List UInt8 := stmA s s.ans.length ++ textL txt ++ putB (s.shw.length : Int)
def stmC (s : Stm) (txt : ByteArray) (k : Nat) : List UInt8 := stmB s txt ++ (s.shw.take k).flatMap shwL
def bO (l : List UInt8) : ByteArray := ⟨l.toArray⟩
theorem bO_size (l : List UInt8) : (bO l).size = l.length := by show l.toArray.size = _; rw [List.size_toArray]
theorem bO_app (l m : List UInt8) : bO l ++ ⟨m.toArray⟩ = bO (l ++ m) := bytes_two l m
theorem stmA_succ {s : Stm} {k : Nat} (h : k < s.ans.length) : stmA s (k + 1) = stmA s k ++ textL (ansAt s.ans k).field ++ textL (ansAt s.ans k).text ++ putB (ansAt s.ans k).num := by
  unfold stmA
  have e : ansAt s.ans k = s.ans[k] := by unfold ansAt; rw [List.getD_eq_getElem?_getD, List.getElem?_eq_getElem h]; rfl
  rw [List.take_succ_eq_append_getElem h, List.flatMap_append, List.flatMap_cons, List.flatMap_nil, List.append_nil, e]
  simp only [ansL, List.append_assoc]
theorem stmC_succ {s : Stm} {txt : ByteArray} {k : Nat} (h : k < s.shw.length) : stmC s txt (k + 1) = stmC s txt k ++ textL (shwAt s.shw k).field ++ textL (shwAt s.shw k).role := by
  unfold stmC
  have e : shwAt s.shw k = s.shw[k] := by unfold shwAt; rw [List.getD_eq_getElem?_getD, List.getElem?_eq_getElem h]; rfl
  rw [List.take_succ_eq_append_getElem h, List.flatMap_append, List.flatMap_cons, List.flatMap_nil, List.append_nil, e]
  simp only [shwL, List.append_assoc]
theorem headL_len {s : Stm} (h : StmOk s) : (headL s).length ≤ 1000100 := by
  unfold headL
  have := textL_len s.resp
  have := putB_len s.dep
  have := putB_len s.day
  have := putB_len (s.ans.length : Int)
  have := h.resp
  simp only [List.length_append]
  omega
theorem stmA_len {s : Stm} (h : StmOk s) : ∀ k, k ≤ s.ans.length → (stmA s k).length ≤ 1000100 + k * 2000100 := by
  intro k
  induction k with
  | zero => intro _; have := headL_len h; show (headL s ++ []).length ≤ _; simpa using this
  | succ k ih =>
    intro hk
    rw [stmA_succ (by omega)]
    have h1 := ih (by omega)
    obtain ⟨a, b, _⟩ := h.ans k (by omega)
    have := textL_len (ansAt s.ans k).field
    have := textL_len (ansAt s.ans k).text
    have := putB_len (ansAt s.ans k).num
    simp only [List.length_append]
    rw [Nat.succ_mul]
    omega
theorem stmB_len {s : Stm} (h : StmOk s) {txt : ByteArray} (ht : txt.size ≤ 10000) (hn : s.ans.length ≤ 256) : (stmB s txt).length ≤ 600000000 := by
  unfold stmB
  have h1 := stmA_len h s.ans.length (Nat.le_refl _)
  have h2 := textL_len txt
  have h3 := putB_len (s.shw.length : Int)
  have h4 : s.ans.length * 2000100 ≤ 256 * 2000100 := Nat.mul_le_mul_right _ hn
  simp only [List.length_append]
  omega
theorem stmC_len {s : Stm} (h : StmOk s) {txt : ByteArray} (ht : txt.size ≤ 10000) (hn : s.ans.length ≤ 256) : ∀ k, k ≤ s.shw.length → (stmC s txt k).length ≤ 600000000 + k * 2000100 := by
  intro k
  induction k with
  | zero => intro _; have := stmB_len h ht hn; show (stmB s txt ++ []).length ≤ _; simpa using this
  | succ k ih =>
    intro hk
    rw [stmC_succ (by omega)]
    have h1 := ih (by omega)
    obtain ⟨a, b⟩ := h.shw k (by omega)
    have := textL_len (shwAt s.shw k).field
    have := textL_len (shwAt s.shw k).role
    simp only [List.length_append]
    rw [Nat.succ_mul]
    omega
/-! ### The calls, one behind the other -/
def StrQ (x : ByteArray) (W : World) (e : Ending) (w' : World) : Prop := e = .returned (.string x) ∧ Below W.heap.size W w'
section
variable (l : List UInt8) (hl : l.length < 2000000000)
include hl
theorem cq_text (s : ByteArray) (hs : s.size ≤ 1000000) (W : World) : Calls Tryz.prog 82 #[.string (bO l), .string s] W (StrQ (bO (l ++ textL s)) W) := by
  have := c_PutText (bO l) s W (by rw [bO_size]; omega) (by omega)
  unfold TxtPost at this
  rw [bO_app] at this
  exact this
theorem cq_int (n : Int) (hn : In64' n) (W : World) : Calls Tryz.prog 81 #[.string (bO l), .int .i64 n] W (StrQ (bO (l ++ putB n)) W) := by
  have := c_PutInt (bO l) n W hn.1 hn.2 (by rw [bO_size]; omega)
  unfold PutPost at this
  rw [bO_app] at this
  exact this
end
/-! ### What is written -/
def prnS (L : List Trm) : ByteArray := match rootF L with | none => ⟨#[]⟩ | some T => bsOf (txT 6 T)
theorem prnS_size (L : List Trm) : (prnS L).size ≤ 10000 := by
  unfold prnS
  cases h : rootF L with
  | none => exact Nat.zero_le _
  | some T =>
    have := root_txt h
    show (txT 6 T).toArray.size ≤ _
    rw [List.size_toArray]; exact this
def stmW (s : Stm) : List UInt8 := stmC s (prnS s.cond) s.shw.length
/-- What both give for a statement. -/
def bytS (s : Stm) : ByteArray := if (rootF s.cond).isSome then (if max s.ans.length s.shw.length ≤ 256 then (if (stmW s).length ≤ 16384 then bO (stmW s) else ⟨#[]⟩) else ⟨#[]⟩) else ⟨#[]⟩
def bytZ (s : Stm) : Int := if (rootF s.cond).isSome then (if max s.ans.length s.shw.length ≤ 256 then (if (stmW s).length ≤ 16384 then 0 else 3) else 3) else 14
def BytE (s : Stm) (w : World) (e : Ending) (w' : World) : Prop := e = .returned (.tuple #[.string (bytS s), .int .i64 (bytZ s)]) ∧ Below w.heap.size w w'
end Go.Proofs.YtgeahbmaeaoeeaaGreatDoor
namespace Go.Proofs.YtgeahbmaeaoeeaaGreatDoor
open Go.RowKit Num

def TermZ (w : World) (b : Nat) (t : Trm) : Prop := w.cell? ⟨b, 0, none⟩ = some (.int .i64 t.kind) ∧ w.cell? ⟨b, 1, none⟩ = some (.int .i64 t.num) ∧ w.cell? ⟨b, 2, none⟩ = some (.int .i64 t.yrs) ∧
  w.cell? ⟨b, 3, none⟩ = some (.string t.field) ∧ w.cell? ⟨b, 4, none⟩ = some (.string t.text) ∧ w.cell? ⟨b, 5, none⟩ = some (.slice none 0 0) ∧ t.args = []
theorem TermZ.keep {w w' : World} {b : Nat} {t : Trm} (h : TermZ w b t) (hb : w'.heap[b]? = w.heap[b]?) : TermZ w' b t := by
  obtain ⟨h0, h1, h2, h3, h4, h5, h6⟩ := h
  have e : ∀ o, w'.cell? ⟨b, o, none⟩ = w.cell? ⟨b, o, none⟩ := fun o => World.cell?_of_block hb
  exact ⟨(e _).trans h0, (e _).trans h1, (e _).trans h2, (e _).trans h3, (e _).trans h4, (e _).trans h5, h6⟩
def TreeZ (w : World) (S : Nat → Prop) : Nat → Value → Tree → Prop
  | 0, _, _ => False
  | d + 1, v, .node t xs => ∃ b, v = .pointer (some ⟨b, 0, none⟩) ∧ S b ∧ TermZ w b t ∧ ∃ A n c, w.cell? ⟨b, 6, none⟩ = some (.slice A n c) ∧ n = xs.length ∧ n ≤ c ∧
    (0 < n → ∃ g off, A = some ⟨g, off, none⟩ ∧ S g ∧ ∀ k x, xs[k]? = some x → ∃ p, w.cell? ⟨g, off + k, none⟩ = some p ∧ TreeZ w S d p x)
theorem TreeZ.keep {w w' : World} {S : Nat → Prop} (hk : ∀ b, S b → w'.heap[b]? = w.heap[b]?) : ∀ {d v T}, TreeZ w S d v T → TreeZ w' S d v T := by
  intro d
  induction d with
  | zero => intro v T h; exact h.elim
  | succ d ih =>
    intro v T h
    obtain ⟨t, xs⟩ := T
    obtain ⟨b, h1, h2, h3, A, n, c, h4, h5, h6, h7⟩ := h
    refine ⟨b, h1, h2, h3.keep (hk b h2), A, n, c, (World.cell?_of_block (hk b h2)).trans h4, h5, h6, fun hn => ?_⟩
    obtain ⟨g, off, hA, hg, hc⟩ := h7 hn
    refine ⟨g, off, hA, hg, fun k x hx => ?_⟩
    obtain ⟨p, hp, ht⟩ := hc k x hx
    exact ⟨p, (World.cell?_of_block (hk g hg)).trans hp, ih ht⟩
theorem TreeZ.mono {w : World} {S S' : Nat → Prop} {d : Nat} {v : Value} {T : Tree} (h : TreeZ w S d v T) (hk : ∀ b, S b → S' b) : TreeZ w S' d v T := by
  induction d generalizing v T with
  | zero => exact h.elim
  | succ d ih =>
    obtain ⟨t, xs⟩ := T
    obtain ⟨b, h1, h2, h3, A, n, c, h4, h5, h6, h7⟩ := h
    refine ⟨b, h1, hk b h2, h3, A, n, c, h4, h5, h6, fun hn => ?_⟩
    obtain ⟨g, off, hA, hg, hc⟩ := h7 hn
    refine ⟨g, off, hA, hk g hg, fun k x hx => ?_⟩
    obtain ⟨p, hp, ht⟩ := hc k x hx
    exact ⟨p, hp, ih ht⟩
theorem TreeZ.deeper {w : World} {S : Nat → Prop} {d f : Nat} {v : Value} {T : Tree} (h : TreeZ w S d v T) (hf : d ≤ f) : TreeZ w S f v T := by
  induction d generalizing f v T with
  | zero => exact h.elim
  | succ d ih =>
    obtain ⟨f, rfl⟩ : ∃ g, f = g + 1 := ⟨f - 1, by omega⟩
    obtain ⟨t, xs⟩ := T
    obtain ⟨b, h1, h2, h3, A, n, c, h4, h5, h6, h7⟩ := h
    refine ⟨b, h1, h2, h3, A, n, c, h4, h5, h6, fun hn => ?_⟩
    obtain ⟨g, off, hA, hg, hc⟩ := h7 hn
    refine ⟨g, off, hA, hg, fun k x hx => ?_⟩
    obtain ⟨p, hp, ht⟩ := hc k x hx
    exact ⟨p, hp, ih ht (by omega)⟩
theorem TreeZ.ptr {w : World} {S : Nat → Prop} {d : Nat} {v : Value} {T : Tree} (h : TreeZ w S d v T) : ∃ b, v = .pointer (some ⟨b, 0, none⟩) ∧ S b := by
  cases d with
  | zero => exact h.elim
  | succ d => obtain ⟨t, xs⟩ := T; obtain ⟨b, h1, h2, _⟩ := h; exact ⟨b, h1, h2⟩
def KidZ (w : World) (S : Nat → Prop) (d : Nat) (ps : List Value) (xs : List Tree) : Prop := ∀ (i : Nat) (x : Tree), xs[i]? = some x → ∃ p, ps[i]? = some p ∧ TreeZ w S d p x
theorem KidZ.keep {w w' : World} {S T : Nat → Prop} {d : Nat} {ps : List Value} {xs : List Tree} (h : KidZ w S d ps xs) (hk : ∀ b, S b → w'.heap[b]? = w.heap[b]?) (hm : ∀ b, S b → T b) : KidZ w' T d ps xs := by
  intro i x hx
  obtain ⟨p, hp, ht⟩ := h i x hx
  exact ⟨p, hp, (ht.keep hk).mono hm⟩
theorem KidZ.snoc {w : World} {S : Nat → Prop} {d : Nat} {ps : List Value} {xs : List Tree} {p : Value} {x : Tree} (h : KidZ w S d ps xs) (hl : ps.length = xs.length) (hx : TreeZ w S d p x) : KidZ w S d (ps ++ [p]) (xs ++ [x]) := by
  intro i y hy
  rcases Nat.lt_or_ge i xs.length with hi | hi
  · rw [List.getElem?_append_left hi] at hy
    obtain ⟨q, hq, ht⟩ := h i y hy
    exact ⟨q, by rw [List.getElem?_append_left (by omega)]; exact hq, ht⟩
  · rw [List.getElem?_append_right hi] at hy
    have h0 : i - xs.length = 0 := by
      rcases Nat.eq_zero_or_pos (i - xs.length) with h | h
      · exact h
      · rw [List.getElem?_eq_none (by simp; omega)] at hy; cases hy
    rw [h0] at hy
    injection hy with hy
    subst hy
    exact ⟨p, by rw [List.getElem?_append_right (by omega), show i - ps.length = 0 by omega]; rfl, hx⟩
end Go.Proofs.YtgeahbmaeaoeeaaGreatDoor
namespace Go.Proofs.YtgeahbmaeaoeeaaGreatDoor
open Go.RowKit Num

def tmCell (t : Trm) (u : Value) : List Value := [.int .i64 t.kind, .int .i64 t.num, .int .i64 t.yrs, .string t.field, .string t.text, u]
def tmsC (L : List Trm) (us : Nat → Value) : List Value := (List.range (6 * L.length)).map fun j => (tmCell (trmAt L (j / 6)) (us (j / 6))).getD (j % 6) undef
theorem tmsC_len (L : List Trm) (us : Nat → Value) : (tmsC L us).length = L.length * 6 := by simp [tmsC]; omega
theorem tmsC_get (L : List Trm) (us : Nat → Value) (j : Nat) (h : j < 6 * L.length) : (tmsC L us)[j]? = some ((tmCell (trmAt L (j / 6)) (us (j / 6))).getD (j % 6) undef) := by
  unfold tmsC; rw [List.getElem?_map, List.getElem?_range h]; rfl
theorem tmsC_none (L : List Trm) (us : Nat → Value) (j : Nat) (h : 6 * L.length ≤ j) : (tmsC L us)[j]? = none := List.getElem?_eq_none (by rw [tmsC_len]; omega)
theorem tmsC_at (L : List Trm) (us : Nat → Value) (k i : Nat) (h : k < L.length) (hi : i < 6) : (tmsC L us)[k * 6 + i]? = some ((tmCell (trmAt L k) (us k)).getD i undef) := by
  rw [tmsC_get L us _ (by omega), show (k * 6 + i) / 6 = k by omega, show (k * 6 + i) % 6 = i by omega]
theorem trmAt_old (L : List Trm) (t : Trm) (k : Nat) (h : k < L.length) : trmAt (L ++ [t]) k = trmAt L k := by
  unfold trmAt; rw [List.getD_eq_getElem?_getD, List.getD_eq_getElem?_getD, List.getElem?_append_left h]
theorem trmAt_new (L : List Trm) (t : Trm) : trmAt (L ++ [t]) L.length = t := by
  unfold trmAt; rw [List.getD_eq_getElem?_getD, List.getElem?_append_right (Nat.le_refl _)]; simp
theorem tmsC_congr (L : List Trm) {us us' : Nat → Value} (h : ∀ k, k < L.length → us k = us' k) : tmsC L us = tmsC L us' := by
  apply List.ext_getElem?
  intro i
  rcases Nat.lt_or_ge i (6 * L.length) with hi | hi
  · rw [tmsC_get L us i hi, tmsC_get L us' i hi, h (i / 6) (by omega)]
  · rw [tmsC_none L us i hi, tmsC_none L us' i hi]
theorem tmsC_snoc (L : List Trm) (t : Trm) (us : Nat → Value) : tmsC (L ++ [t]) us = tmsC L us ++ tmCell t (us L.length) := by
  apply List.ext_getElem?
  intro i
  have hl : (L ++ [t]).length = L.length + 1 := by simp
  rcases Nat.lt_or_ge i (6 * L.length) with hi | hi
  · rw [tmsC_get _ us i (by omega), List.getElem?_append_left (by rw [tmsC_len]; omega), tmsC_get L us i hi, trmAt_old L t _ (by omega)]
  · rw [List.getElem?_append_right (by rw [tmsC_len]; omega), tmsC_len]
    rcases Nat.lt_or_ge i (6 * L.length + 6) with h2 | h2
    · rw [tmsC_get _ us i (by omega), show i / 6 = L.length by omega, trmAt_new, show i % 6 = i - L.length * 6 by omega]
      obtain ⟨j, hj, hj6⟩ : ∃ j, i - L.length * 6 = j ∧ j < 6 := ⟨_, rfl, by omega⟩
      rw [hj]
      match j, hj6 with
      | 0, _ | 1, _ | 2, _ | 3, _ | 4, _ | 5, _ => rfl
    · rw [tmsC_none _ us i (by omega), List.getElem?_eq_none (by simp [tmCell]; omega)]
/-- The k-th term has other numbers behind it. -/
def setA (L : List Trm) (k : Nat) (a : List Int) : List Trm := L.set k { trmAt L k with args := a }
theorem setA_len (L : List Trm) (k : Nat) (a : List Int) : (setA L k a).length = L.length := by simp [setA]
theorem setA_at (L : List Trm) (k : Nat) (a : List Int) (h : k < L.length) : trmAt (setA L k a) k = { trmAt L k with args := a } := by
  unfold setA; generalize ({ trmAt L k with args := a } : Trm) = t
  unfold trmAt; rw [List.getD_eq_getElem?_getD, List.getElem?_set]; simp [h]
theorem setA_ne (L : List Trm) (k j : Nat) (a : List Int) (h : j ≠ k) : trmAt (setA L k a) j = trmAt L j := by
  unfold setA; generalize ({ trmAt L k with args := a } : Trm) = t
  unfold trmAt; rw [List.getD_eq_getElem?_getD, List.getD_eq_getElem?_getD, List.getElem?_set, if_neg (fun e => h e.symm)]
theorem tmsC_set (L : List Trm) (us : Nat → Value) (k : Nat) (u : Value) (a : List Int) (h : k < L.length) : (tmsC L us).set (k * 6 + 5) u = tmsC (setA L k a) (fun j => if j = k then u else us j) := by
  apply List.ext_getElem?
  intro i
  rw [List.getElem?_set]
  rcases Nat.lt_or_ge i (6 * L.length) with hi | hi
  · rw [tmsC_get L us i hi, tmsC_get _ _ i (by rw [setA_len]; exact hi), tmsC_len]
    by_cases e : k * 6 + 5 = i
    · rw [if_pos e, if_pos (by omega), show i / 6 = k by omega, show i % 6 = 5 by omega]; simp [tmCell]
    · rw [if_neg e]
      by_cases e2 : i / 6 = k
      · rw [e2, setA_at L k a h]
        obtain ⟨j, hj, hj6⟩ : ∃ j, i % 6 = j ∧ j < 5 := ⟨_, rfl, by omega⟩
        rw [hj]
        match j, hj6 with
        | 0, _ | 1, _ | 2, _ | 3, _ | 4, _ => rfl
      · rw [setA_ne L k _ a e2, if_neg e2]
  · rw [if_neg (by omega), tmsC_none L us i hi, tmsC_none _ _ i (by rw [setA_len]; exact hi)]
structure OwnTs (w : World) (B : Nat) (v : Value) (L : List Trm) (us : Nat → Value) : Prop where
  row : w.ownsRow B 115 6 v L.length (tmsC L us)
  args : ∀ k, k < L.length → w.ownsRow B 3 1 (us k) (trmAt L k).args.length ((trmAt L k).args.map (Value.int .i64))
  apart : ∀ j k, j < L.length → k < L.length → j ≠ k → (us j).ownBlock = none ∨ (us j).ownBlock ≠ (us k).ownBlock
theorem OwnTs.nil (w : World) (B : Nat) (us : Nat → Value) : OwnTs w B (.slice none 0 0) [] us := ⟨World.ownsRow_nil _ _ _ _, fun k hk => by simp at hk, fun j k hj => by simp at hj⟩
section
variable {w w2 : World} {B : Nat} {v v' u' : Value} {L : List Trm} {us : Nat → Value} {t : Trm} {o : Obj}
theorem OwnTs.push (h : OwnTs w B v L us) (ht : t.args = []) (hown : w2.ownsRow B 115 6 v' (L.length + 1) (tmsC L us ++ tmCell t (.slice none 0 0))) (hg : (w.alloc o).grownBy w2 v.ownBlock) :
    OwnTs w2 B v' (L ++ [t]) (fun k => if k = L.length then .slice none 0 0 else us k) := by
  refine ⟨?_, fun k hk => ?_, fun j k hj hk hne => ?_⟩
  · rw [tmsC_snoc, List.length_append]
    have e : tmsC L (fun k => if k = L.length then .slice none 0 0 else us k) = tmsC L us := tmsC_congr L fun k hk => if_neg (by omega)
    rw [e]; simpa using hown
  · rw [List.length_append] at hk
    by_cases e : k = L.length
    · subst e; rw [if_pos rfl, trmAt_new, ht]; exact World.ownsRow_nil _ _ _ _
    · rw [if_neg e, trmAt_old L t k (by simp at hk; omega)]
      have hk' : k < L.length := by simp at hk; omega
      exact ((h.args k hk').alloc o).kept hg (own_ne (h.args k hk') h.row (by decide))
  · rw [List.length_append] at hj hk
    by_cases e : j = L.length
    · subst e; rw [if_pos rfl]; exact .inl rfl
    · rw [if_neg e]
      by_cases e2 : k = L.length
      · rw [if_pos e2]
        rcases hb : (us j).ownBlock with _ | g
        · exact .inl rfl
        · exact .inr (by simp [Value.ownBlock])
      · rw [if_neg e2]; exact h.apart j k (by simp at hj; omega) (by simp at hk; omega) hne
theorem OwnTs.arg {g n cap : Nat} (h : OwnTs w B (.slice (some ⟨g, 0, none⟩) L.length cap) L us) {k : Nat} (hk : k < L.length) {m : Int}
    (hown : w2.ownsRow B 3 1 u' ((trmAt L k).args.length + 1) ((trmAt L k).args.map (Value.int .i64) ++ [.int .i64 m])) (hg : (w.alloc o).grownBy w2 (us k).ownBlock) (hw : u'.ownBlock = (us k).ownBlock ∨ u'.ownBlock = some (w.heap.size + 1)) :
    OwnTs (w2.setCell ⟨g, k * 6 + 5, none⟩ u') B (.slice (some ⟨g, 0, none⟩) L.length cap) (setA L k ((trmAt L k).args ++ [m])) (fun j => if j = k then u' else us j) := by
  have hrow2 := (h.row.alloc o).kept hg (own_ne h.row (h.args k hk) (by decide))
  have hst := World.ownsRow.stored hrow2 (k * 6 + 5) u'
  have hne : u'.ownBlock = none ∨ u'.ownBlock ≠ some g := by
    rcases own_ne hown hrow2 (by decide) with e | e
    · exact .inl e
    · exact .inr e
  refine ⟨?_, fun j hj => ?_, fun j i hj hi hji => ?_⟩
  · rw [setA_len, ← tmsC_set L us k u' _ hk]; exact hst.1
  · rw [setA_len] at hj
    by_cases e : j = k
    · subst e; rw [if_pos rfl, setA_at L j _ hk]
      simp only [List.length_append, List.length_cons, List.length_nil, List.map_append, List.map_cons, List.map_nil]
      exact hown.kept hst.2 hne
    · rw [if_neg e, setA_ne L k j _ e]
      have hj2 := ((h.args j hj).alloc o).kept hg (h.apart j k hj hk e)
      refine hj2.kept hst.2 ?_
      rcases own_ne hj2 hrow2 (by decide) with e' | e'
      · exact .inl e'
      · exact .inr e'
  · rw [setA_len] at hj hi
    have hlt : ∀ q, q < L.length → ∀ b, (us q).ownBlock = some b → b < w.heap.size := fun q hq b hb => ((h.args q hq).lt b hb).2
    by_cases e : j = k
    · subst e
      rw [if_pos rfl, if_neg (fun e => hji e.symm)]
      rcases hw with e' | e'
      · rw [e']; exact h.apart j i hj hi hji
      · rw [e']; right; intro e2; have := hlt i hi _ e2.symm; omega
    · rw [if_neg e]
      by_cases e2 : i = k
      · subst e2
        rw [if_pos rfl]
        rcases hw with e' | e'
        · rw [e']; exact h.apart j i hj hi hji
        · rw [e']
          rcases hb : (us j).ownBlock with _ | b
          · exact .inl rfl
          · right; intro e2; injection e2 with e2; have := hlt j hj b hb; omega
      · rw [if_neg e2]; exact h.apart j i hj hi hji
end
end Go.Proofs.YtgeahbmaeaoeeaaGreatDoor
