/- Plain: what a role sees of a statement. Contracts: the kit's Word. Contracts: the plays' One, Of and a term of their Condition. Contracts: the plays' Condition. Slices of slices: their value under one name. Contracts: the options of a field, the program's and the reference's. Contracts: the plays' Statement. -/
import Derived.Test.YthibelndhcnifaaGreatDoorX19
import Derived.Test.YthibelndhcnifaaGreatDoorX01
import Derived.Test.YthibelndhcnifaaGreatDoorX14
import Derived.Test.YthibelndhcnifaaGreatDoorX16
import Derived.Test.YthibelndhcnifaaGreatDoorX02
import Derived.Test.YthibelndhcnifaaGreatDoorX06
import Derived.Deep.CutRange
import Derived.Deep.CutBlock
set_option linter.unusedVariables false
set_option linter.unusedSimpArgs false
namespace Go.Proofs.YthibelndhcnifaaGreatDoor
open Go.RowKit Num

def respB : ByteArray := ⟨#[114, 101, 115, 112, 111, 110, 100, 101, 110, 116]⟩
def deptB : ByteArray := ⟨#[100, 101, 112, 97, 114, 116, 109, 101, 110, 116]⟩
def dayB : ByteArray := ⟨#[100, 97, 121]⟩
def whatB : ByteArray := ⟨#[119, 104, 97, 116]⟩
def kindW : ByteArray := ⟨#[107, 105, 110, 100]⟩
def boardB : ByteArray := ⟨#[98, 111, 97, 114, 100]⟩
def counB : ByteArray := ⟨#[99, 111, 117, 110, 115, 101, 108, 108, 111, 114]⟩
/-- Is there a show of this field for this role? -/
def seesS (L : List Shw) (r f : ByteArray) : Bool := L.any fun x => (x.field.toList == f.toList) && (x.role.toList == r.toList)
theorem sees_iff (L : List Shw) (r f : ByteArray) : seesS L r f = true ↔ (⟨f, r⟩ : Shw) ∈ L := by
  unfold seesS
  rw [List.any_eq_true]
  constructor
  · rintro ⟨x, hx, h⟩
    rw [Bool.and_eq_true] at h
    rw [bytes_of h.1, bytes_of h.2]
    exact hx
  · intro h
    exact ⟨_, h, by simp⟩
theorem sees_bool {L : List Shw} {r f : ByteArray} {b : Bool} (h : b = true ↔ (⟨f, r⟩ : Shw) ∈ L) : b = seesS L r f := by
  rw [← sees_iff] at h
  cases b <;> cases hs : seesS L r f <;> simp_all
/-- What a role sees. -/
def visA (L : List Shw) (r : ByteArray) (A : List Ans) : List Ans := A.filter fun a => seesS L r a.field
def visS (s : Stm) (r : ByteArray) : Stm := ⟨if seesS s.shw r respB then s.resp else ⟨#[]⟩, if seesS s.shw r deptB then s.dep else 0, if seesS s.shw r dayB then s.day else 0, visA s.shw r s.ans, [], []⟩
theorem visA_take {L : List Shw} {r : ByteArray} {A : List Ans} {k : Nat} (hk : k < A.length) : visA L r (A.take (k + 1)) = visA L r (A.take k) ++ (if seesS L r (ansAt A k).field then [ansAt A k] else []) := by
  have e : ansAt A k = A[k] := by unfold ansAt; rw [List.getD_eq_getElem?_getD, List.getElem?_eq_getElem hk]; rfl
  unfold visA
  rw [List.take_succ_eq_append_getElem hk, List.filter_append, e, List.filter_cons, List.filter_nil]
theorem visA_len (L : List Shw) (r : ByteArray) (A : List Ans) : (visA L r A).length ≤ A.length := List.length_filter_le _ _
theorem visA_mem {L : List Shw} {r : ByteArray} {A : List Ans} {x : Ans} (h : x ∈ visA L r A) : x ∈ A ∧ seesS L r x.field = true := by
  unfold visA at h
  exact List.mem_filter.1 h
theorem visS_ok {s : Stm} (h : StmOk s) (r : ByteArray) : StmOk (visS s r) := by
  refine ⟨?_, ?_, ?_, Nat.le_trans (visA_len _ _ _) h.an, fun k hk => ?_, Nat.zero_le _, fun k hk => absurd hk (Nat.not_lt_zero _), Nat.zero_le _, fun t ht => by cases ht⟩
  · show (if _ then s.resp else _ : ByteArray).size ≤ _
    split
    · exact h.resp
    · exact Nat.zero_le _
  · show In64' (if _ then s.dep else 0)
    split
    · exact h.dep
    · exact ⟨by decide, by decide⟩
  · show In64' (if _ then s.day else 0)
    split
    · exact h.day
    · exact ⟨by decide, by decide⟩
  · have hm : ansAt (visS s r).ans k ∈ s.ans := (visA_mem (ansAt_mem hk)).1
    obtain ⟨j, hj, e⟩ := List.getElem_of_mem hm
    have := h.ans j hj
    have e2 : ansAt s.ans j = s.ans[j] := by unfold ansAt; rw [List.getD_eq_getElem?_getD, List.getElem?_eq_getElem hj]; rfl
    rw [e2, e] at this
    exact this
/-! ### The law -/
/-- A show for the board more. -/
def moreS (s : Stm) (f : ByteArray) : Stm := { s with shw := s.shw ++ [⟨f, boardB⟩] }
theorem sees_more (L : List Shw) (g r f : ByteArray) : seesS (L ++ [⟨g, boardB⟩]) r f = (seesS L r f || ((g.toList == f.toList) && (boardB.toList == r.toList))) := by
  unfold seesS
  rw [List.any_append, List.any_cons, List.any_nil, Bool.or_false]
theorem more_coun (s : Stm) (f : ByteArray) : visS (moreS s f) counB = visS s counB := by
  have h : ∀ g, seesS (moreS s f).shw counB g = seesS s.shw counB g := fun g => by
    show seesS (s.shw ++ [⟨f, boardB⟩]) counB g = _
    rw [sees_more, show (boardB.toList == counB.toList) = false from seq_false (by decide), Bool.and_false, Bool.or_false]
  unfold visS visA
  simp only [h]
  rfl
theorem more_sees {s : Stm} {f g : ByteArray} (h : seesS s.shw boardB g = true) : seesS (moreS s f).shw boardB g = true := by
  show seesS (s.shw ++ [⟨f, boardB⟩]) boardB g = true
  rw [sees_more, h, Bool.true_or]
theorem more_in {s : Stm} {f : ByteArray} {x : Ans} (h : x ∈ (visS s boardB).ans) : x ∈ (visS (moreS s f) boardB).ans := by
  obtain ⟨h1, h2⟩ := visA_mem h
  exact List.mem_filter.2 ⟨h1, more_sees h2⟩
theorem vis_show {s : Stm} {x : Ans} (h : x ∈ (visS s boardB).ans) : (⟨x.field, boardB⟩ : Shw) ∈ s.shw := (sees_iff _ _ _).1 (visA_mem h).2
theorem more_resp (s : Stm) (f : ByteArray) : (visS s boardB).resp = ⟨#[]⟩ ∨ (visS (moreS s f) boardB).resp = (visS s boardB).resp := by
  cases h : seesS s.shw boardB respB with
  | false => left; unfold visS; simp [h]
  | true =>
    right
    have h2 := more_sees (f := f) h
    unfold visS
    rw [h2, h]
    rfl
theorem more_day (s : Stm) : (visS (moreS s dayB) boardB).day = s.day := by
  have h : seesS (moreS s dayB).shw boardB dayB = true := by
    show seesS (s.shw ++ [⟨dayB, boardB⟩]) boardB dayB = true
    rw [sees_more]; simp
  unfold visS
  rw [h]
  rfl
theorem none_sees {s : Stm} {r : ByteArray} (h : ∀ x ∈ s.shw, x.role ≠ r) (f : ByteArray) : seesS s.shw r f = false := by
  cases e : seesS s.shw r f with
  | false => rfl
  | true => exact absurd rfl (h _ ((sees_iff _ _ _).1 e))
theorem none_vis {s : Stm} {r : ByteArray} (h : ∀ x ∈ s.shw, x.role ≠ r) : visS s r = ⟨⟨#[]⟩, 0, 0, [], [], []⟩ := by
  have e := none_sees h
  unfold visS visA
  simp [e]
end Go.Proofs.YthibelndhcnifaaGreatDoor
namespace Go.Proofs.YthibelndhcnifaaGreatDoor
open Go.RowKit Num

def KWordPost (b n : Nat) (ss : Nat → ByteArray) (w : World) (e : Ending) (w' : World) : Prop := ∃ r : Nat, r < n ∧ e = .returned (.string (ss r)) ∧ Dc w' b ∧ w.grownBy w' (some b)
set_option maxHeartbeats 1000000 in
theorem k_WordK (b g off n c : Nat) (ss : Nat → ByteArray) (w : World) (hd : Dc w b) (hg : g < w.heap.size) (hne : g ≠ b) (h1 : 1 ≤ n) (h2 : n ≤ 1000000) (hc : ∀ i, i < n → w.cell? ⟨g, off + i, none⟩ = some (.string (ss i))) :
    Calls Tryz.prog 16 #[.pointer (some ⟨b, 0, none⟩), .slice (some ⟨g, off, none⟩) n c] w (KWordPost b n ss w) := by
  have HC := Lib.hid hc
  have HD := Lib.hid hd
  clear hc hd
  go_enter Tryz.func16, Tryz.ntmps16
  go_wp2_with fail
  refine (k_Next b n _ HD.out h1 (by omega)).mono ?_
  rintro e w1 ⟨r, hr, rfl, hd1, hg1⟩
  have hcell : w1.cell? ⟨g, off + r, none⟩ = some (.string (ss r)) := (World.cell?_of_block (hg1.block g hg (by intro e; injection e with e; exact hne e))).trans (HC.out r hr)
  have HD1 := Lib.hid hd1
  have HG1 := Lib.hid hg1
  have qr : (r : Int) < (n : Int) := by omega
  have q0 : (0 : Int) ≤ (r : Int) := by omega
  clear hd1 hg1
  go_wp2_with fail
  go_ret
  exact ⟨r, hr, rfl, HD1.out, HG1.out⟩
end Go.Proofs.YthibelndhcnifaaGreatDoor
namespace Go.Proofs.YthibelndhcnifaaGreatDoor
open Go.RowKit Num

def trmZ : Array Value := #[.int .i64 0, .int .i64 0, .int .i64 0, .string ⟨#[]⟩, .string ⟨#[]⟩, .slice none 0 0]
def trmC (k n y : Int) (f x : ByteArray) : Array Value := #[.int .i64 k, .int .i64 n, .int .i64 y, .string f, .string x, .slice none 0 0]
/-- A term without arguments, as the plays make it. -/
def PlT (w : World) (db : Nat) (e : Ending) (w' : World) : Prop := ∃ k n y f x, e = .returned (.agg (trmC k n y f x)) ∧ KitT ⟨k, n, y, f, x, []⟩ ∧ Dc w' db ∧ w.grownBy w' (some db)
structure C1 (w W : World) (db bx : Nat) : Prop where
  dc : Dc W db
  res : Blk W w.heap.size 67 trmZ
  box : Blk W bx 25 #[.pointer (some ⟨db, 0, none⟩)]
  gw : w.grownBy W (some db)
  dl : db < w.heap.size
  bl : bx < w.heap.size
  ne : bx ≠ db
theorem C1.dice {w W W' : World} {db bx : Nat} (h : C1 w W db bx) (hd : Dc W' db) (hg : W.grownBy W' (some db)) : C1 w W' db bx :=
  ⟨hd, (hg.block _ h.res.lt (by intro e; injection e; have := h.dl; omega)).trans h.res, (hg.block _ h.box.lt (by intro e; injection e; exact h.ne (by omega))).trans h.box, gb_trans h.gw hg, h.dl, h.bl, h.ne⟩
theorem C1.drew {w W : World} {db bx : Nat} (h : C1 w W db bx) : C1 w W.drew db bx :=
  h.dice h.dc.drew (only_drewN (World.grownBy.refl W _) 1)
theorem C1.rc {w W : World} {db bx : Nat} (h : C1 w W db bx) (i : Nat) : W.cell? ⟨w.heap.size, i, none⟩ = trmZ[i]? := h.res.cell i
theorem C1.rf {w W : World} {db bx : Nat} (h : C1 w W db bx) (i : Nat) : W.frozen? ⟨w.heap.size, i, none⟩ = false := h.res.frozen i
theorem C1.fin {w W : World} {db bx : Nat} (h : C1 w W db bx) (k n y : Int) (f x : ByteArray) :
    ∀ W2, W2 = (((((W.setCell ⟨w.heap.size, 0, none⟩ (.int .i64 k)).setCell ⟨w.heap.size, 1, none⟩ (.int .i64 n)).setCell ⟨w.heap.size, 2, none⟩ (.int .i64 y)).setCell ⟨w.heap.size, 3, none⟩ (.string f)).setCell ⟨w.heap.size, 4, none⟩ (.string x)).setCell ⟨w.heap.size, 5, none⟩ (.slice none 0 0) →
      (KitT ⟨k, n, y, f, x, []⟩ → PlT w db (.returned (.agg (trmC k n y f x))) W2) ∧ Blk W2 w.heap.size 67 (trmC k n y f x) := fun W2 hW2 => by
  have hc : Chg W W2 (fun q => q = w.heap.size) := by
    rw [hW2]
    exact Chg.setCell (Chg.setCell (Chg.setCell (Chg.setCell (Chg.setCell (Chg.setCell (Chg.refl W (fun q => q = w.heap.size)) ⟨w.heap.size, 0, none⟩ (fun _ => rfl) _) ⟨w.heap.size, 1, none⟩ (fun _ => rfl) _) ⟨w.heap.size, 2, none⟩ (fun _ => rfl) _) ⟨w.heap.size, 3, none⟩ (fun _ => rfl) _) ⟨w.heap.size, 4, none⟩ (fun _ => rfl) _) ⟨w.heap.size, 5, none⟩ (fun _ => rfl) _
  have hb : Blk W2 w.heap.size 67 (trmC k n y f x) := by
    rw [hW2]
    exact (((((h.res.set_ 0 _).set_ 1 _).set_ 2 _).set_ 3 _).set_ 4 _).set_ 5 _
  have hs := hc.size
  have h1 := h.dl
  refine ⟨fun hk => ⟨k, n, y, f, x, rfl, hk, h.dc.keep fun q hq => hc.block q (by have := h.dc.lt; omega) (by omega), ?_⟩, hb⟩
  exact ⟨hc.os.trans h.gw.os, hc.tape.trans h.gw.tape, hc.output.trans h.gw.output, Nat.le_trans h.gw.size hs, fun q hq hne => (hc.block q (Nat.lt_of_lt_of_le hq h.gw.size) (by omega)).trans (h.gw.block q hq hne)⟩
end Go.Proofs.YthibelndhcnifaaGreatDoor
namespace Go.Proofs.YthibelndhcnifaaGreatDoor
open Go.RowKit Num

def PlC (w : World) (db : Nat) (e : Ending) (w' : World) : Prop := ∃ A n c L, e = .returned (.agg #[.slice A n c]) ∧ TermsAt w' (fun b => w.heap.size ≤ b ∧ b < w'.heap.size) (.slice A n c) L ∧ L.length ≤ 3 ∧ (∀ t ∈ L, KitT t) ∧ Dc w' db ∧ w.grownBy w' (some db)
structure C2 (w W : World) (db : Nat) : Prop where
  dc : Dc W db
  box : Blk W w.heap.size 25 #[.pointer (some ⟨db, 0, none⟩)]
  res : Blk W (w.heap.size + 1) 30 #[.slice none 0 0]
  gw : w.grownBy W (some db)
  dl : db < w.heap.size
section
variable {w W W' : World} {db : Nat}
theorem C2.dice (h : C2 w W db) (hd : Dc W' db) (hg : W.grownBy W' (some db)) : C2 w W' db :=
  ⟨hd, (hg.block _ h.box.lt (by intro e; injection e; have := h.dl; omega)).trans h.box, (hg.block _ h.res.lt (by intro e; injection e; have := h.dl; omega)).trans h.res, gb_trans h.gw hg, h.dl⟩
theorem C2.alloc (h : C2 w W db) (o : Obj) : C2 w (W.alloc o) db := h.dice (h.dc.alloc o) (World.grownBy_alloc W o _)
theorem C2.rc (h : C2 w W db) : W.cell? ⟨w.heap.size + 1, 0, none⟩ = some (.slice none 0 0) := (h.res.cell 0).trans rfl
theorem C2.rf (h : C2 w W db) : W.frozen? ⟨w.heap.size + 1, 0, none⟩ = false := h.res.frozen 0
/-- The terms are stored as the result. -/
theorem C2.fin (h : C2 w W db) {A : Option Addr} {n c : Nat} {L : List Trm} (hT : TermsAt W (fun b => w.heap.size + 1 < b ∧ b < W.heap.size) (.slice A n c) L) (hl : L.length ≤ 3) (hk : ∀ t ∈ L, KitT t) :
    PlC w db (.returned (.agg #[.slice A n c])) (W.setCell ⟨w.heap.size + 1, 0, none⟩ (.slice A n c)) ∧ (W.setCell ⟨w.heap.size + 1, 0, none⟩ (.slice A n c)).cell? ⟨w.heap.size + 1, 0, none⟩ = some (.slice A n c) := by
  have hg : W.grownBy (W.setCell ⟨w.heap.size + 1, 0, none⟩ (.slice A n c)) (some (w.heap.size + 1)) := grown_setCell W ⟨w.heap.size + 1, 0, none⟩ _
  have h1 := h.dl
  refine ⟨⟨A, n, c, L, rfl, (hT.keep fun b hb => hg.block b hb.2 (by intro e; injection e; omega)).mono fun b hb => ⟨by omega, by have := hg.size; omega⟩, hl, hk, h.dc.keep fun q hq => hg.block q (by have := h.dc.lt; omega) (by intro e; injection e; omega), ?_⟩, World.cell?_setCell_same W ⟨w.heap.size + 1, 0, none⟩ _ h.rc⟩
  exact ⟨hg.os.trans h.gw.os, hg.tape.trans h.gw.tape, hg.output.trans h.gw.output, Nat.le_trans h.gw.size hg.size, fun q hq hne => (hg.block q (Nat.lt_of_lt_of_le hq h.gw.size) (by intro e; injection e; omega)).trans (h.gw.block q hq hne)⟩
end
end Go.Proofs.YthibelndhcnifaaGreatDoor
namespace Go.Proofs.YthibelndhcnifaaGreatDoor
open Go.RowKit Num
/-- The head of a slice of a slice. -/
def subA (A : Option Addr) (cap k size : Nat) : Option Addr := if cap = k then A else A.map (·.add (k * size))
section
variable {P : Program} (w : World) (t e : TypeId) (i : TypeInfo) (size : Nat)
theorem run_slice_hi (ht : P.underlying t = some (.slice e)) (hi : P.info? e = some i) (A : Option Addr) (n c hg : Nat) (h2 : hg ≤ c) (y : Int) (hy : y = (hg : Int)) :
    (Instr.slice t (.slice A n c) none (some (.int .i64 y)) none).run P w = .ok (.slice A hg c) w := by
  subst hy
  have e1 : (0 : Int) ≤ (hg : Int) ∧ (hg : Int) ≤ (c : Int) := by omega
  simp [Instr.slice, run_underlying ht, Instr.sliceBounds, Instr.sliceBound, asIntOf, sizeOf, typeInfo, hi, go_sem, h2]
end
theorem Reads.sub {w : World} {B size n : Nat} {A : Option Addr} {xs : List Value} (h : Reads w B size A n xs) {lo hg cap : Nat} (h1 : lo ≤ hg) (h2 : hg ≤ n) (hc : n ≤ cap) :
    Reads w B size (subA A cap lo size) (hg - lo) ((xs.drop (lo * size)).take ((hg - lo) * size)) := by
  refine ⟨?_, fun hn => ?_⟩
  · rw [List.length_take, List.length_drop, h.1, ← Nat.sub_mul]
    exact Nat.min_eq_left (Nat.mul_le_mul_right size (by omega))
  obtain ⟨ad, rfl, hb, hcell⟩ := h.2 (by omega)
  unfold subA
  rw [if_neg (by omega)]
  refine ⟨ad.add (lo * size), rfl, by rw [block_of_add]; exact hb, fun j u hu => ?_⟩
  rw [add_of_add]
  rw [List.getElem?_take] at hu
  split at hu
  · exact hcell _ u (by rw [← hu, List.getElem?_drop])
  · cases hu
end Go.Proofs.YthibelndhcnifaaGreatDoor
namespace Go.Proofs.YthibelndhcnifaaGreatDoor
open Go.RowKit Num

theorem infoTx : (Tryz.prog.info? 9).map (fun i => (i.zero, i.size, i.bytes)) = some (some (.string ⟨#[]⟩), 1, 16) := by kernel_rfl
end Go.Proofs.YthibelndhcnifaaGreatDoor
namespace Go.Proofs.YthibelndhcnifaaGreatDoor
open Go.RowKit Num

theorem infoAn : (Tryz.prog.info? 44).map (fun i => (i.zero, i.size, i.bytes)) = some (some (.agg #[.string ⟨#[]⟩, .string ⟨#[]⟩, .int .i64 0]), 3, 40) := by kernel_rfl
theorem infoSw : (Tryz.prog.info? 41).map (fun i => (i.zero, i.size, i.bytes)) = some (some (.agg #[.string ⟨#[]⟩, .string ⟨#[]⟩]), 2, 32) := by kernel_rfl
/-- One of some words, by the dice. -/
theorem k_WordP (P : ByteArray → Prop) (b g : Nat) (L : List ByteArray) (n : Nat) (w : World) (hd : Dc w b) (hne : g ≠ b) (hb : Blk w g 9 (L.map Value.string).toArray) (hn : L.length = n) (h1 : 1 ≤ n) (h2 : n ≤ 1000) (hs : ∀ x ∈ L, P x) :
    Calls Tryz.prog 16 #[.pointer (some ⟨b, 0, none⟩), .slice (some ⟨g, 0, none⟩) n n] w fun e w' => ∃ x : ByteArray, P x ∧ e = .returned (.string x) ∧ Dc w' b ∧ w.grownBy w' (some b) := by
  refine (k_WordK b g 0 n n (fun i => L.getD i ⟨#[]⟩) w hd hb.lt hne h1 (by omega) (fun i hi => ?_)).mono ?_
  · rw [Nat.zero_add, hb.cell i]
    have hl : i < L.length := by omega
    simp [List.getD_eq_getElem?_getD, List.getElem?_eq_getElem hl]
  · rintro e w' ⟨r, hr, rfl, hd', hg'⟩
    refine ⟨_, ?_, rfl, hd', hg'⟩
    have hl : r < L.length := by omega
    show P (L.getD r ⟨#[]⟩)
    rw [List.getD_eq_getElem?_getD, List.getElem?_eq_getElem hl]
    exact hs _ (List.getElem_mem hl)
theorem k_WordL (b g : Nat) (L : List ByteArray) (n : Nat) (w : World) (hd : Dc w b) (hne : g ≠ b) (hb : Blk w g 9 (L.map Value.string).toArray) (hn : L.length = n) (h1 : 1 ≤ n) (h2 : n ≤ 1000) (hs : ∀ x ∈ L, x.size ≤ 1000) :
    Calls Tryz.prog 16 #[.pointer (some ⟨b, 0, none⟩), .slice (some ⟨g, 0, none⟩) n n] w fun e w' => ∃ x : ByteArray, x.size ≤ 1000 ∧ e = .returned (.string x) ∧ Dc w' b ∧ w.grownBy w' (some b) :=
  k_WordP (fun x => x.size ≤ 1000) b g L n w hd hne hb hn h1 h2 hs
/-- The same while a statement is made. -/
theorem GSt.wordP (P : ByteArray → Prop) {w W : World} {db tb : Nat} {s : Stm} {va vc vs : Value} (h : GSt w W db tb s va vc vs) {g : Nat} (L : List ByteArray) (n : Nat) (hb : Blk W g 9 (L.map Value.string).toArray) (hg : db < g) (hn : L.length = n) (h1 : 1 ≤ n) (h2 : n ≤ 1000) (hs : ∀ x ∈ L, P x) :
    Calls Tryz.prog 16 #[.pointer (some ⟨db, 0, none⟩), .slice (some ⟨g, 0, none⟩) n n] W fun e W' => ∃ x : ByteArray, P x ∧ e = .returned (.string x) ∧ GSt w W' db tb s va vc vs ∧ W.grownBy W' (some db) :=
  (k_WordP P db g L n W h.dc (by omega) hb hn h1 h2 hs).mono fun e W' hh => by
    obtain ⟨x, hx, he, hd, hg⟩ := hh
    exact ⟨x, hx, he, h.dice hd hg, hg⟩
theorem GSt.word {w W : World} {db tb : Nat} {s : Stm} {va vc vs : Value} (h : GSt w W db tb s va vc vs) {g : Nat} (L : List ByteArray) (n : Nat) (hb : Blk W g 9 (L.map Value.string).toArray) (hg : db < g) (hn : L.length = n) (h1 : 1 ≤ n) (h2 : n ≤ 1000) (hs : ∀ x ∈ L, x.size ≤ 1000) :
    Calls Tryz.prog 16 #[.pointer (some ⟨db, 0, none⟩), .slice (some ⟨g, 0, none⟩) n n] W fun e W' => ∃ x : ByteArray, x.size ≤ 1000 ∧ e = .returned (.string x) ∧ GSt w W' db tb s va vc vs ∧ W.grownBy W' (some db) :=
  h.wordP (fun x => x.size ≤ 1000) L n hb hg hn h1 h2 hs
/-- A role. -/
theorem GSt.wordR {w W : World} {db tb : Nat} {s : Stm} {va vc vs : Value} (h : GSt w W db tb s va vc vs) {g : Nat} (L : List ByteArray) (n : Nat) (hb : Blk W g 9 (L.map Value.string).toArray) (hg : db < g) (hn : L.length = n) (h1 : 1 ≤ n) (h2 : n ≤ 1000) (hs : ∀ x ∈ L, RoleP x) :
    Calls Tryz.prog 16 #[.pointer (some ⟨db, 0, none⟩), .slice (some ⟨g, 0, none⟩) n n] W fun e W' => ∃ x : ByteArray, RoleP x ∧ e = .returned (.string x) ∧ GSt w W' db tb s va vc vs ∧ W.grownBy W' (some db) :=
  h.wordP RoleP L n hb hg hn h1 h2 hs
theorem GSt.lt {w W : World} {db tb : Nat} {s : Stm} {va vc vs : Value} (h : GSt w W db tb s va vc vs) : db < W.heap.size ∧ tb < W.heap.size ∧ w.heap.size < W.heap.size := ⟨h.dc.lt, h.blk.lt, h.res.lt⟩
end Go.Proofs.YthibelndhcnifaaGreatDoor
