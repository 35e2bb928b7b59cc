/- Contracts: the bytes of lists of numbers. Contracts: the bytes of numbers and of lists of numbers: the reference's, at any number of the machine. The reference's sum. Contracts: the sum of two strings. Words for memory: forms. Plain facts: which forms are valid. Contracts: the sum of a list of texts, the program's and the reference's. -/
import Derived.Test.YtgeahbmaeaoeeaaGreatDoorQ11
import Derived.Test.YtgeahbmaeaoeeaaGreatDoorQ04
import Derived.Lib.AppendStr
import Derived.Lib.EndianBits
import Derived.Deep.MidRow
import Derived.Deep.WholeRow
import Derived.Test.YtgeahbmaeaoeeaaGreatDoorQ10
import Derived.Test.YtgeahbmaeaoeeaaGreatDoorQ09
import Derived.Test.YtgeahbmaeaoeeaaGreatDoorQ08
import Derived.Test.YtgeahbmaeaoeeaaGreatDoorQ07
set_option linter.unusedVariables false
set_option linter.unusedSimpArgs false
namespace Go.Proofs.YtgeahbmaeaoeeaaGreatDoor
open Go.RowKit Num

theorem OwnB.below {w w' : World} {base : Nat} {v : Value} {xs : List Value} (h : OwnB w base v xs) (hb : Below w.heap.size w w') : OwnB w' base v xs :=
  h.of_block (fun g hg => hb.block g hg) hb.size
section
variable {P : Program}
theorem run_append_bs (w : World) (base : Nat) (t u ty e : TypeId) (i : TypeInfo) (ht : P.underlying t = some (.slice e)) (hu : P.underlying u = some .string) (hi : P.info? e = some i) (hz : i.zero = some (.int .u8 0))
    (hsize : i.size = 1) (hby : i.bytes = 1) (v : Value) (xs : List Value) (hown : OwnB w base v xs)
    (s : ByteArray) (hlen : xs.length + s.size ≤ 140737488355328) (hbase : base ≤ w.heap.size) :
    ∃ v' w', (Builtin.append_ #[t, u] ty #[v, .string s]).run P w = .ok v' w' ∧ OwnB w' base v' (xs ++ Lib.strCells s) ∧ Below base w w' := by
  obtain ⟨g, cap, rfl, hb1, hb2, hb3, hb4, hb5⟩ := hown
  have hsl := Lib.strCells_length s
  by_cases hr : xs.length + s.size ≤ cap
  · have hf := Lib.run_firstCells_string (P := P) w 1 s
    have hst := run_storeCells_cells (P := P) g xs.length (Lib.strCells s) 0 w (by intro j hj; simpa using (hb4 (xs.length + j) (by omega)).1) (by intro j hj; simpa using (hb4 (xs.length + j) (by omega)).2) (Lib.strCells_oneCell s)
    simp only [Nat.add_zero] at hst
    have hrun : (Builtin.append_ #[t, u] ty #[.slice (some ⟨g, 0, none⟩) xs.length cap, .string s]).run P w = .ok (.slice (some ⟨g, 0, none⟩) (xs.length + s.size) cap) (w.setCells g xs.length (Lib.strCells s)) := by
      simp [Builtin.append_, run_underlying ht, run_underlying hu, sizeOf, typeInfo, hi, hsize, Builtin.lenOf, hr, hf, Addr.add_lit, hst]
    have hin := World.cell?_setCells_in g (Lib.strCells s) xs.length w (fun j hj => (hb4 _ (by omega)).1)
    have hout := fun (x : Addr) hx => World.cell?_setCells_out g (Lib.strCells s) xs.length w x hx
    have hfz := fun (x : Addr) => World.frozen?_setCells g (Lib.strCells s) xs.length w x
    have hsz : (w.setCells g xs.length (Lib.strCells s)).heap.size = w.heap.size := by
      have : ∀ (vs : List Value) (o : Nat) (w : World), (w.setCells g o vs).heap.size = w.heap.size := by
        intro vs
        induction vs with
        | nil => intro o w; rfl
        | cons a l ih => intro o w; show ((w.setCell ⟨g, o, none⟩ a).setCells g (o + 1) l).heap.size = _; rw [ih]; simp [World.setCell]
      exact this _ _ _
    have hbel : Below base w (w.setCells g xs.length (Lib.strCells s)) := by
      have : ∀ (vs : List Value) (o : Nat) (w : World), Below base w (w.setCells g o vs) := by
        intro vs
        induction vs with
        | nil => intro o w; exact Below.refl _ _
        | cons a l ih => intro o w; exact ((Below.refl base w).setCell (p := ⟨g, o, none⟩) hb1 a).trans (ih (o + 1) _)
      exact this _ _ _
    refine ⟨_, _, hrun, ⟨g, cap, by rw [List.length_append, hsl], hb1, by rw [hsz]; exact hb2, by rw [List.length_append, hsl]; exact hr, fun j hj => ⟨?_, by rw [hfz]; exact (hb4 j hj).2⟩, fun j x hx => ?_⟩, hbel⟩
    · by_cases hin1 : xs.length ≤ j ∧ j < xs.length + s.size
      · have := hin (j - xs.length) (by omega)
        rw [show xs.length + (j - xs.length) = j by omega] at this
        rw [this]; rfl
      · rw [hout ⟨g, j, none⟩ (fun _ _ => by show j < xs.length ∨ _ ≤ j; omega)]
        exact (hb4 j hj).1
    · by_cases hj : j < xs.length
      · rw [hout ⟨g, j, none⟩ (fun _ _ => .inl hj)]
        refine hb5 j x ?_
        rwa [List.getElem?_append_left hj] at hx
      · rw [List.getElem?_append_right (by omega)] at hx
        obtain ⟨hj2, hx2⟩ := List.getElem?_eq_some_iff.1 hx
        have := hin (j - xs.length) hj2
        rw [show xs.length + (j - xs.length) = j by omega] at this
        rw [this, hx2]
  · have hrun := Lib.run_append_grow_string (P := P) w t u ty e i (.int .u8 0) ht hu hi hz ⟨g, 0, none⟩ xs.length cap xs (by rw [hsize]; simp) (fun j x hx => by rw [addr_add]; exact hb5 j x hx) s (by omega) (by omega) (by rw [hby]; exact growslice_fits (by omega) (by omega))
    have hge := grownCap_ge w (xs.length + s.size) cap e
    refine ⟨_, _, hrun, OwnB.of_row (e := e) ?_ (by rw [List.length_append, hsl]; omega), ?_⟩
    · rw [List.length_append, hsl]
      refine ⟨by rw [List.length_append, hsl, Nat.mul_one], .inr ⟨w.heap.size, _, _, rfl, hbase, heap_alloc_new w.drew _, hge, ?_, ?_, ?_⟩⟩
      · exact grownCap_le_maxLen w (xs.length + s.size) cap e (by simp only [maxLen]; omega)
      · have hz1 : (Value.int IntKind.u8 0).cells.size = 1 := rfl
        simp only [Array.size_append, List.size_toArray, size_zeroCells, hz1, hsl]
        omega
      · have el : (xs ++ Lib.strCells s).length = xs.length + s.size := by rw [List.length_append, hsl]
        simp only [Array.toList_append, List.append_assoc]
        rw [← List.append_assoc, Nat.mul_one, ← el]
        exact List.take_left
    · exact (Below.refl _ _).drew.alloc (by simpa using hbase) _
theorem wpList_append_bs {w : World} {ops : Array Oper} {rest : List Oper} {o : Oper} {a : Act} {Q : Exit → Act → World → Prop} (hgd : o.guard = none) (sl x : Operand) (t u : TypeId)
    (ho : o.op = .call { callee := .builtin .append, args := #[sl, x], argTypes := #[t, u] })
    (base : Nat) (e : TypeId) (i : TypeInfo) (ht : P.underlying t = some (.slice e)) (hu : P.underlying u = some .string) (hi : P.info? e = some i) (hz : i.zero = some (.int .u8 0))
    (hsize : i.size = 1) (hby : i.bytes = 1) (v : Value) (xs : List Value) (hs : a.eval sl = v) (hown : OwnB w base v xs)
    (s : ByteArray) (hx : a.eval x = .string s) (hlen : xs.length + s.size ≤ 140737488355328) (hbase : base ≤ w.heap.size)
    (h : ∀ v' w', OwnB w' base v' (xs ++ Lib.strCells s) → Below base w w' → wpList P ops Q rest (a.put o.dst v') w') : wpList P ops Q (o :: rest) a w := by
  refine wpList_plain hgd fun K hK => ?_
  obtain ⟨v', w', hr, h2, h3⟩ := run_append_bs (P := P) w base t u o.type e i ht hu hi hz hsize hby v xs hown s hlen hbase
  unfold Oper.wp execOp
  simp only [ho, resolve, invoke, builtin, Sem.run_bind, Sem.run_pure, Result.andThen_ok, List.map_toArray, List.map_cons, List.map_nil, hs, hx, hr]
  exact hK _ _ (h v' w' h2 h3)
end
/-- The bytes of a list of numbers. -/
def putsL (xs : List Int) : List UInt8 := xs.flatMap putB
def putsB (xs : List Int) : List UInt8 := putB xs.length ++ putsL xs
theorem putsL_len (xs : List Int) : (putsL xs).length ≤ 11 * xs.length := by
  unfold putsL
  induction xs with
  | nil => simp
  | cons a l ih => rw [List.flatMap_cons, List.length_append, List.length_cons]; have := putB_len a; omega
theorem putsL_take (xs : List Int) (k : Nat) (h : k < xs.length) : putsL (xs.take (k + 1)) = putsL (xs.take k) ++ putB (xs.getD k 0) := by
  unfold putsL
  rw [List.take_succ_eq_append_getElem h, List.flatMap_append, List.flatMap_cons, List.flatMap_nil, List.append_nil, List.getD_eq_getElem?_getD, List.getElem?_eq_getElem h]
  rfl
theorem bytes_empty (b : ByteArray) : (⟨#[]⟩ : ByteArray) ++ b = b := by
  apply ByteArray.ext
  simp
theorem bytes_two (l m : List UInt8) : (⟨l.toArray⟩ : ByteArray) ++ ⟨m.toArray⟩ = ⟨(l ++ m).toArray⟩ := by
  apply ByteArray.ext
  simp
theorem strCells_list (l : List UInt8) : Lib.strCells ⟨l.toArray⟩ = Lib.byteCells l := rfl
theorem byteCells_app (l m : List UInt8) : Lib.byteCells (l ++ m) = Lib.byteCells l ++ Lib.byteCells m := by simp [Lib.byteCells]
/-- Numbers of the machine. -/
def I64s (xs : List Int) : Prop := ∀ k, k < xs.length → -9223372036854775808 ≤ xs.getD k 0 ∧ xs.getD k 0 < 9223372036854775808
def PutsPost (b : ByteArray) (xs : List Int) (w : World) (e : Ending) (w' : World) : Prop := e = .returned (.string (b ++ ⟨(putsB xs).toArray⟩)) ∧ Below w.heap.size w w'

end Go.Proofs.YtgeahbmaeaoeeaaGreatDoor
namespace Go.Proofs.YtgeahbmaeaoeeaaGreatDoor
open Go.RowKit Num

theorem app_str2 (b : ByteArray) (l : List UInt8) : (⟨(b.data.toList ++ l).toArray⟩ : ByteArray) = b ++ ⟨l.toArray⟩ := by
  apply ByteArray.ext
  rw [ByteArray.data_append]
  simp
theorem not_u64 (x : Nat) (hx : x < 18446744073709551616) : bits .xor .u64 IntKind.u64.max (x : Int) = ((18446744073709551615 - x : Nat) : Int) := by
  have e : IntKind.u64.max = ((18446744073709551615 : Nat) : Int) := by decide
  rw [e]
  have ha : (18446744073709551615 : Nat) % 2 ^ IntKind.u64.bits = 18446744073709551615 := by decide
  have hb : x % 2 ^ IntKind.u64.bits = x := Nat.mod_eq_of_lt hx
  have hn : (18446744073709551615 : Nat) ^^^ x = 18446744073709551615 - x := by
    have h := BitVec.toNat_not (x := BitVec.ofNat 64 x)
    have h2 : (~~~ BitVec.ofNat 64 x) = BitVec.allOnes 64 ^^^ BitVec.ofNat 64 x := by rw [BitVec.allOnes_xor]
    rw [h2, BitVec.toNat_xor, BitVec.toNat_allOnes, BitVec.toNat_ofNat, Nat.mod_eq_of_lt hx] at h
    exact h
  simp only [bits, BitVec.ofInt_natCast, BitVec.toNat_xor, BitVec.toNat_ofNat, ha, hb, hn]
  rw [IntKind.wrap_u64]
  omega
end Go.Proofs.YtgeahbmaeaoeeaaGreatDoor
namespace Go.Proofs.YtgeahbmaeaoeeaaGreatDoor
open Go.RowKit Num

def shaKC : Array Value := (shaK.map (Value.int .u32)).toArray
theorem shaKC_get (i : Nat) (hi : i < 64) : shaKC[i]? = some (.int .u32 (kOf i)) := map_get shaK i hi

theorem shaKC_size : shaKC.size = 64 := by rfl
theorem shaKC_one : shaKC.all (·.oneCell') = true := by kernel_rfl
theorem const_world (w : World) (old : Array Value) (T : TypeId) (W : World) (h : World.setRow (World.alloc w (.cells old T)) w.heap.size shaKC = W) : Below w.heap.size w W ∧ W.rangeAt w.heap.size 0 shaKC.toList := by
  subst h
  have hrow := setRow_heap _ w.heap.size _ shaKC _ _ (heap_alloc_new w (.cells old T))
  exact ⟨⟨rfl, rfl, rfl, by simp, fun i hi => by rw [setRow_other _ _ i _ (by omega)]; exact heap_alloc_old w _ hi⟩, fun j v hv => by
    rw [Nat.zero_add, cell_of_row _ _ j _ _ _ hrow]; simpa using hv⟩
/-- The bytes of the first words, as cells. -/
def outC (f : Nat → Int) (t : Nat) : List Value := (List.range (4 * t)).map fun i => .int .u8 (f (i / 4) / ((2 ^ (24 - 8 * (i % 4)) : Nat) : Int) % 256)
theorem outC_next (f : Nat → Int) (t : Nat) : outC f (t + 1) = outC f t ++ [.int .u8 (f t / 16777216 % 256), .int .u8 (f t / 65536 % 256), .int .u8 (f t / 256 % 256), .int .u8 (f t % 256)] := by
  unfold outC
  rw [show 4 * (t + 1) = 4 * t + 1 + 1 + 1 + 1 by omega]
  simp only [List.range_succ, List.map_append, List.map_cons, List.map_nil, List.append_assoc, List.cons_append, List.nil_append]
  rw [show 4 * t / 4 = t by omega, show (4 * t + 1) / 4 = t by omega, show (4 * t + 1 + 1) / 4 = t by omega, show (4 * t + 1 + 1 + 1) / 4 = t by omega, show 4 * t % 4 = 0 by omega, show (4 * t + 1) % 4 = 1 by omega, show (4 * t + 1 + 1) % 4 = 2 by omega, show (4 * t + 1 + 1 + 1) % 4 = 3 by omega]
  simp

end Go.Proofs.YtgeahbmaeaoeeaaGreatDoor
namespace Go.Proofs.YtgeahbmaeaoeeaaGreatDoor
open Go.RowKit Num

/-- A number in four bytes. -/
def fourL (n : Nat) : List UInt8 := [UInt8.ofNat (n / 16777216), UInt8.ofNat (n / 65536 % 256), UInt8.ofNat (n / 256 % 256), UInt8.ofNat (n % 256)]
def fourB (n : Nat) : ByteArray := ⟨(fourL n).toArray⟩
theorem fourB_size (n : Nat) : (fourB n).size = 4 := rfl
def fourC (n : Nat) : Array Value := #[.int .u8 ((n : Int) / 16777216), .int .u8 ((n : Int) / 65536 % 256), .int .u8 ((n : Int) / 256 % 256), .int .u8 ((n : Int) % 256)]
set_option maxRecDepth 100000 in
theorem four_convert (n : Nat) (w : World) (h : n < 4294967296) :
    (convert 110 9 (.slice (some ⟨w.heap.size, 0, none⟩) 4 4)).run Tryz.prog (w.alloc (.cells (fourC n) 5)) = .ok (.string (fourB n)) (w.alloc (.cells (fourC n) 5)) := by
  have hb : Blk (w.alloc (.cells (fourC n) 5)) w.heap.size 5 (fourC n) := Blk.new w _ _
  have hcv := run_convert_bytes_arg (P := Tryz.prog) (w.alloc (.cells (fourC n) 5)) 110 5 Tryz.underlying110 Tryz.underlying5 w.heap.size 0 4 4
    [((n / 16777216 : Nat) : Int), ((n / 65536 % 256 : Nat) : Int), ((n / 256 % 256 : Nat) : Int), ((n % 256 : Nat) : Int)] rfl (fun i hi => by
      rw [Nat.zero_add]
      match i, hi with
      | 0, _ => rw [hb.cell 0]; show some (Value.int .u8 ((n : Int) / 16777216)) = _; congr 2
      | 1, _ => rw [hb.cell 1]; show some (Value.int .u8 ((n : Int) / 65536 % 256)) = _; congr 2
      | 2, _ => rw [hb.cell 2]; show some (Value.int .u8 ((n : Int) / 256 % 256)) = _; congr 2
      | 3, _ => rw [hb.cell 3]; show some (Value.int .u8 ((n : Int) % 256)) = _; congr 2) 9 Tryz.underlying9
  have hst : strOfNums [((n / 16777216 : Nat) : Int), ((n / 65536 % 256 : Nat) : Int), ((n / 256 % 256 : Nat) : Int), ((n % 256 : Nat) : Int)] = fourB n := rfl
  rwa [hst] at hcv
def FourPost (n : Nat) (w : World) (e : Ending) (w' : World) : Prop := e = .returned (.string (fourB n)) ∧ Below w.heap.size w w'
/-- What is summed of two strings. -/
def pairB (a b : ByteArray) : ByteArray := ⟨#[1]⟩ ++ fourB a.size ++ a ++ fourB b.size ++ b
def pairS (a b : ByteArray) : ByteArray := shaOf (pairB a b)
theorem pairS_size (a b : ByteArray) : (pairS a b).size = 32 := shaOf_size _
theorem pair_sizes (a b : ByteArray) : ((⟨#[1]⟩ : ByteArray) ++ fourB a.size).size = 5 ∧ ((⟨#[1]⟩ : ByteArray) ++ fourB a.size ++ a).size = 5 + a.size ∧ ((⟨#[1]⟩ : ByteArray) ++ fourB a.size ++ a ++ fourB b.size).size = 9 + a.size ∧ (pairB a b).size = 9 + a.size + b.size := by
  have z1 : ((⟨#[1]⟩ : ByteArray) ++ fourB a.size).size = 5 := by rw [ByteArray.size_append, fourB_size]; rfl
  have z2 : ((⟨#[1]⟩ : ByteArray) ++ fourB a.size ++ a).size = 5 + a.size := by rw [ByteArray.size_append, z1]
  have z3 : ((⟨#[1]⟩ : ByteArray) ++ fourB a.size ++ a ++ fourB b.size).size = 9 + a.size := by rw [ByteArray.size_append, z2, fourB_size]; omega
  exact ⟨z1, z2, z3, by unfold pairB; rw [ByteArray.size_append, z3]⟩
def PairPost (a b : ByteArray) (w : World) (e : Ending) (w' : World) : Prop := e = .returned (.string (pairS a b)) ∧ Below w.heap.size w w'
end Go.Proofs.YtgeahbmaeaoeeaaGreatDoor
namespace Go.Proofs.YtgeahbmaeaoeeaaGreatDoor
open Go.RowKit Num

/-- A field of a form. -/
structure Fld where
  name : ByteArray
  kind : Int
  need : Bool
  least : Int
  most : Int
  opts : List ByteArray
def fld0 : Fld := ⟨⟨#[]⟩, 0, false, 0, 0, []⟩
def fldAt (L : List Fld) (k : Nat) : Fld := L.getD k fld0
/-- Texts in memory. -/
def TxsAt (w : World) (S : Nat → Prop) (v : Value) (ss : List ByteArray) : Prop :=
  ∃ (A : Option Addr) (n c : Nat), v = .slice A n c ∧ n = ss.length ∧ n ≤ c ∧ (0 < n → ∃ b off, A = some ⟨b, off, none⟩ ∧ S b ∧ ∀ k, k < n → w.cell? ⟨b, off + k, none⟩ = some (.string (ss.getD k ⟨#[]⟩)))
theorem TxsAt.keep {w w' : World} {S : Nat → Prop} {v : Value} {ss : List ByteArray} (h : TxsAt w S v ss) (hk : ∀ b, S b → w'.heap[b]? = w.heap[b]?) : TxsAt w' S v ss := by
  obtain ⟨A, n, c, h1, h2, h3, h4⟩ := h
  refine ⟨A, n, c, h1, h2, h3, fun hn => ?_⟩
  obtain ⟨b, off, hA, hS, hc⟩ := h4 hn
  exact ⟨b, off, hA, hS, fun k hk' => (World.cell?_of_block (hk b hS)).trans (hc k hk')⟩
theorem TxsAt.mono {w : World} {S T : Nat → Prop} {v : Value} {ss : List ByteArray} (h : TxsAt w S v ss) (hk : ∀ b, S b → T b) : TxsAt w T v ss := by
  obtain ⟨A, n, c, h1, h2, h3, h4⟩ := h
  refine ⟨A, n, c, h1, h2, h3, fun hn => ?_⟩
  obtain ⟨b, off, hA, hS, hc⟩ := h4 hn
  exact ⟨b, off, hA, hk b hS, hc⟩
theorem TxsAt.of_own {w : World} {B : Nat} {v : Value} {n : Nat} {ss : List ByteArray} (h : w.ownsRow B 9 1 v n (ss.map Value.string)) : TxsAt w (fun b => B ≤ b ∧ b < w.heap.size) v ss := by
  have hl : n = ss.length := by have := h.1; simpa using this.symm
  rcases id h.2 with ⟨rfl, rfl⟩ | ⟨g, cap, cur, rfl, hB, hh, hnc, _⟩
  · exact ⟨none, 0, 0, rfl, hl, Nat.le_refl _, fun hn => absurd hn (Nat.lt_irrefl 0)⟩
  · refine ⟨_, n, cap, rfl, hl, hnc, fun hn => ⟨g, 0, rfl, ⟨hB, (Array.getElem?_eq_some_iff.1 hh).1⟩, fun k hk => ?_⟩⟩
    rw [Nat.zero_add, h.cellAt k (by omega), List.getElem?_map, List.getElem?_eq_getElem (by omega), List.getD_eq_getElem?_getD, List.getElem?_eq_getElem (by omega)]
    rfl
/-- A field in memory. -/
def FldAt (w : World) (S : Nat → Prop) (b off : Nat) (f : Fld) : Prop :=
  w.cell? ⟨b, off, none⟩ = some (.string f.name) ∧ w.cell? ⟨b, off + 1, none⟩ = some (.int .i64 f.kind) ∧ w.cell? ⟨b, off + 2, none⟩ = some (.bool f.need) ∧ w.cell? ⟨b, off + 3, none⟩ = some (.int .i64 f.least) ∧ w.cell? ⟨b, off + 4, none⟩ = some (.int .i64 f.most) ∧
    ∃ u, w.cell? ⟨b, off + 5, none⟩ = some u ∧ TxsAt w S u f.opts
def FldsAt (w : World) (S : Nat → Prop) (v : Value) (L : List Fld) : Prop :=
  ∃ (A : Option Addr) (n c : Nat), v = .slice A n c ∧ n = L.length ∧ n ≤ c ∧ (0 < n → ∃ b off, A = some ⟨b, off, none⟩ ∧ S b ∧ ∀ k, k < n → FldAt w S b (off + k * 6) (fldAt L k))
theorem FldAt.keep {w w' : World} {S : Nat → Prop} {b off : Nat} {f : Fld} (h : FldAt w S b off f) (hb : w'.heap[b]? = w.heap[b]?) (hk : ∀ b, S b → w'.heap[b]? = w.heap[b]?) : FldAt w' S b off f := by
  obtain ⟨h0, h1, h2, h3, h4, u, h5, h6⟩ := h
  have e : ∀ o, w'.cell? ⟨b, o, none⟩ = w.cell? ⟨b, o, none⟩ := fun o => World.cell?_of_block hb
  exact ⟨(e _).trans h0, (e _).trans h1, (e _).trans h2, (e _).trans h3, (e _).trans h4, u, (e _).trans h5, h6.keep hk⟩
theorem FldAt.mono {w : World} {S T : Nat → Prop} {b off : Nat} {f : Fld} (h : FldAt w S b off f) (hk : ∀ b, S b → T b) : FldAt w T b off f := by
  obtain ⟨h0, h1, h2, h3, h4, u, h5, h6⟩ := h
  exact ⟨h0, h1, h2, h3, h4, u, h5, h6.mono hk⟩
theorem FldsAt.keep {w w' : World} {S : Nat → Prop} {v : Value} {L : List Fld} (h : FldsAt w S v L) (hk : ∀ b, S b → w'.heap[b]? = w.heap[b]?) : FldsAt w' S v L := by
  obtain ⟨A, n, c, h1, h2, h3, h4⟩ := h
  refine ⟨A, n, c, h1, h2, h3, fun hn => ?_⟩
  obtain ⟨b, off, hA, hS, hc⟩ := h4 hn
  exact ⟨b, off, hA, hS, fun k hk' => (hc k hk').keep (hk b hS) hk⟩
theorem FldsAt.mono {w : World} {S T : Nat → Prop} {v : Value} {L : List Fld} (h : FldsAt w S v L) (hk : ∀ b, S b → T b) : FldsAt w T v L := by
  obtain ⟨A, n, c, h1, h2, h3, h4⟩ := h
  refine ⟨A, n, c, h1, h2, h3, fun hn => ?_⟩
  obtain ⟨b, off, hA, hS, hc⟩ := h4 hn
  exact ⟨b, off, hA, hk b hS, fun k hk' => (hc k hk').mono hk⟩
/-- What is small enough for the walks. -/
def FldOk (f : Fld) : Prop := f.name.size ≤ 4294967296 ∧ f.opts.length ≤ 1000000 ∧ -9223372036854775808 ≤ f.kind ∧ f.kind < 9223372036854775808 ∧ -9223372036854775808 ≤ f.least ∧ f.least < 9223372036854775808 ∧ -9223372036854775808 ≤ f.most ∧ f.most < 9223372036854775808 ∧ ∀ s ∈ f.opts, s.size ≤ 9223372036854775807
/-! ### Which forms are valid -/
def optGood (L : List ByteArray) (k : Nat) : Prop := ∀ i, i < k → 1 ≤ (L.getD i ⟨#[]⟩).size ∧ (L.getD i ⟨#[]⟩).size ≤ 256 ∧ ∀ j, j < i → L.getD j ⟨#[]⟩ ≠ L.getD i ⟨#[]⟩
noncomputable instance (L : List ByteArray) (k : Nat) : Decidable (optGood L k) := Classical.propDecidable _
noncomputable def optsB (L : List ByteArray) : Bool := decide (optGood L L.length ∧ 1 ≤ L.length ∧ L.length ≤ 16)
noncomputable def fldB (f : Fld) : Bool := nameB (blOf f.name) && decide (f.least ≤ f.most) && (decide (f.kind = 4) || decide (f.opts.length = 0)) &&
  (if f.kind = 1 then decide (0 ≤ f.least) && decide (f.most ≤ 16384) else if f.kind = 2 then true else if f.kind = 3 then decide (0 ≤ f.least) && decide (f.most ≤ 3652058) else if f.kind = 4 then decide (f.least = 0) && decide (f.most = 0) && optsB f.opts else false)
/-- The number of the first field with a name. -/
def findF (s : ByteArray) : List Fld → Nat → Option Nat
  | [], _ => none
  | f :: r, k => if blOf f.name = blOf s then some k else findF s r (k + 1)
end Go.Proofs.YtgeahbmaeaoeeaaGreatDoor
namespace Go.Proofs.YtgeahbmaeaoeeaaGreatDoor
open Go.RowKit Num

/-- What is summed of a list of texts, so many of them. -/
def oneL (s : ByteArray) : List UInt8 := fourL s.size ++ blOf s
def listL (ss : List ByteArray) (k : Nat) : List UInt8 := 2 :: fourL ss.length ++ (ss.take k).flatMap oneL
def listS (ss : List ByteArray) : ByteArray := shaOf ⟨(listL ss ss.length).toArray⟩
theorem listL_succ {ss : List ByteArray} {k : Nat} (h : k < ss.length) : listL ss (k + 1) = listL ss k ++ oneL (ss.getD k ⟨#[]⟩) := by
  unfold listL
  rw [List.take_succ_eq_append_getElem h, List.flatMap_append, List.flatMap_cons, List.flatMap_nil, List.append_nil, List.getD_eq_getElem?_getD, List.getElem?_eq_getElem h, List.append_assoc]
  rfl
theorem oneL_len (s : ByteArray) : (oneL s).length = 4 + s.size := by unfold oneL; rw [List.length_append, blOf_len]; rfl
theorem listL_len {ss : List ByteArray} {M : Nat} (hs : ∀ k, k < ss.length → (ss.getD k ⟨#[]⟩).size ≤ M) : ∀ k, k ≤ ss.length → (listL ss k).length ≤ 5 + k * (4 + M) := by
  intro k
  induction k with
  | zero => intro _; show (2 :: fourL ss.length ++ []).length ≤ _; simp [fourL]
  | succ k ih =>
    intro h
    rw [listL_succ (by omega), List.length_append, oneL_len]
    have h1 := ih (by omega)
    have h2 := hs k (by omega)
    rw [Nat.succ_mul]
    omega
theorem bldF_below {B b : Nat} {bs : List Value} {w w' : World} (h : BldF B b bs w) (hb : Below w.heap.size w w') : BldF B b bs w' := by
  rcases h with h | h
  · have hlt := Lib.BuilderAtF.lt h
    obtain ⟨hB, v, hbk, hown, hne⟩ := h
    exact .inl ⟨hB, v, (hb.block b hlt).trans hbk, hown.kept (only_of_below hb none) (by cases hv : v.ownBlock <;> simp), hne⟩
  · exact .inr (bldU_below h hb)
def LstE (ss : List ByteArray) (w : World) (e : Ending) (w' : World) : Prop := e = .returned (.string (listS ss)) ∧ Below w.heap.size w w'
theorem one_cells (x y : ByteArray) (h : fourB x.size = y) : Lib.strCells (y ++ x) = Lib.byteCells (oneL x) := by
  rw [← h]
  show Lib.strCells ((⟨(fourL x.size).toArray⟩ : ByteArray) ++ ⟨(blOf x).toArray⟩) = _
  rw [bytes_two]
  rfl
theorem one_bytes (x y : ByteArray) (l : List UInt8) (h : fourB x.size = y) : (⟨l.toArray⟩ : ByteArray) ++ (y ++ x) = ⟨(l ++ oneL x).toArray⟩ := by
  rw [← h]
  show (⟨l.toArray⟩ : ByteArray) ++ ((⟨(fourL x.size).toArray⟩ : ByteArray) ++ ⟨(blOf x).toArray⟩) = _
  rw [bytes_two, bytes_two]
  rfl
end Go.Proofs.YtgeahbmaeaoeeaaGreatDoor
