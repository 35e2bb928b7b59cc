/- Contracts: the bytes of lists of numbers. Contracts: the bytes of numbers and of lists of numbers: the reference's, at any number of the machine. -/
import Derived.Test.YtgbhaaongmlpkaaGreatDoorX08
import Derived.Test.YtgbhaaongmlpkaaGreatDoorX03
import Derived.Lib.AppendStr
import Derived.Lib.EndianBits
set_option linter.unusedVariables false
set_option linter.unusedSimpArgs false
namespace Go.Proofs.YtgbhaaongmlpkaaGreatDoor
open Go.RowKit Num

theorem OwnB.below {w w' : World} {base : Nat} {v : Value} {xs : List Value} (h : OwnB w base v xs) (hb : Below w.heap.size w w') : OwnB w' base v xs :=
  h.of_block (fun g hg => hb.block g hg) hb.size
section
variable {P : Program}
theorem run_append_bs (w : World) (base : Nat) (t u ty e : TypeId) (i : TypeInfo) (ht : P.underlying t = some (.slice e)) (hu : P.underlying u = some .string) (hi : P.info? e = some i) (hz : i.zero = some (.int .u8 0))
    (hsize : i.size = 1) (hby : i.bytes = 1) (v : Value) (xs : List Value) (hown : OwnB w base v xs)
    (s : ByteArray) (hlen : xs.length + s.size ≤ 140737488355328) (hbase : base ≤ w.heap.size) :
    ∃ v' w', (Builtin.append_ #[t, u] ty #[v, .string s]).run P w = .ok v' w' ∧ OwnB w' base v' (xs ++ Lib.strCells s) ∧ Below base w w' := by
  obtain ⟨g, cap, rfl, hb1, hb2, hb3, hb4, hb5⟩ := hown
  have hsl := Lib.strCells_length s
  by_cases hr : xs.length + s.size ≤ cap
  · have hf := Lib.run_firstCells_string (P := P) w 1 s
    have hst := run_storeCells_cells (P := P) g xs.length (Lib.strCells s) 0 w (by intro j hj; simpa using (hb4 (xs.length + j) (by omega)).1) (by intro j hj; simpa using (hb4 (xs.length + j) (by omega)).2) (Lib.strCells_oneCell s)
    simp only [Nat.add_zero] at hst
    have hrun : (Builtin.append_ #[t, u] ty #[.slice (some ⟨g, 0, none⟩) xs.length cap, .string s]).run P w = .ok (.slice (some ⟨g, 0, none⟩) (xs.length + s.size) cap) (w.setCells g xs.length (Lib.strCells s)) := by
      simp [Builtin.append_, run_underlying ht, run_underlying hu, sizeOf, typeInfo, hi, hsize, Builtin.lenOf, hr, hf, Addr.add_lit, hst]
    have hin := World.cell?_setCells_in g (Lib.strCells s) xs.length w (fun j hj => (hb4 _ (by omega)).1)
    have hout := fun (x : Addr) hx => World.cell?_setCells_out g (Lib.strCells s) xs.length w x hx
    have hfz := fun (x : Addr) => World.frozen?_setCells g (Lib.strCells s) xs.length w x
    have hsz : (w.setCells g xs.length (Lib.strCells s)).heap.size = w.heap.size := by
      have : ∀ (vs : List Value) (o : Nat) (w : World), (w.setCells g o vs).heap.size = w.heap.size := by
        intro vs
        induction vs with
        | nil => intro o w; rfl
        | cons a l ih => intro o w; show ((w.setCell ⟨g, o, none⟩ a).setCells g (o + 1) l).heap.size = _; rw [ih]; simp [World.setCell]
      exact this _ _ _
    have hbel : Below base w (w.setCells g xs.length (Lib.strCells s)) := by
      have : ∀ (vs : List Value) (o : Nat) (w : World), Below base w (w.setCells g o vs) := by
        intro vs
        induction vs with
        | nil => intro o w; exact Below.refl _ _
        | cons a l ih => intro o w; exact ((Below.refl base w).setCell (p := ⟨g, o, none⟩) hb1 a).trans (ih (o + 1) _)
      exact this _ _ _
    refine ⟨_, _, hrun, ⟨g, cap, by rw [List.length_append, hsl], hb1, by rw [hsz]; exact hb2, by rw [List.length_append, hsl]; exact hr, fun j hj => ⟨?_, by rw [hfz]; exact (hb4 j hj).2⟩, fun j x hx => ?_⟩, hbel⟩
    · by_cases hin1 : xs.length ≤ j ∧ j < xs.length + s.size
      · have := hin (j - xs.length) (by omega)
        rw [show xs.length + (j - xs.length) = j by omega] at this
        rw [this]; rfl
      · rw [hout ⟨g, j, none⟩ (fun _ _ => by show j < xs.length ∨ _ ≤ j; omega)]
        exact (hb4 j hj).1
    · by_cases hj : j < xs.length
      · rw [hout ⟨g, j, none⟩ (fun _ _ => .inl hj)]
        refine hb5 j x ?_
        rwa [List.getElem?_append_left hj] at hx
      · rw [List.getElem?_append_right (by omega)] at hx
        obtain ⟨hj2, hx2⟩ := List.getElem?_eq_some_iff.1 hx
        have := hin (j - xs.length) hj2
        rw [show xs.length + (j - xs.length) = j by omega] at this
        rw [this, hx2]
  · have hrun := Lib.run_append_grow_string (P := P) w t u ty e i (.int .u8 0) ht hu hi hz ⟨g, 0, none⟩ xs.length cap xs (by rw [hsize]; simp) (fun j x hx => by rw [addr_add]; exact hb5 j x hx) s (by omega) (by omega) (by rw [hby]; exact growslice_fits (by omega) (by omega))
    have hge := grownCap_ge w (xs.length + s.size) cap e
    refine ⟨_, _, hrun, OwnB.of_row (e := e) ?_ (by rw [List.length_append, hsl]; omega), ?_⟩
    · rw [List.length_append, hsl]
      refine ⟨by rw [List.length_append, hsl, Nat.mul_one], .inr ⟨w.heap.size, _, _, rfl, hbase, heap_alloc_new w.drew _, hge, ?_, ?_, ?_⟩⟩
      · exact grownCap_le_maxLen w (xs.length + s.size) cap e (by simp only [maxLen]; omega)
      · have hz1 : (Value.int IntKind.u8 0).cells.size = 1 := rfl
        simp only [Array.size_append, List.size_toArray, size_zeroCells, hz1, hsl]
        omega
      · have el : (xs ++ Lib.strCells s).length = xs.length + s.size := by rw [List.length_append, hsl]
        simp only [Array.toList_append, List.append_assoc]
        rw [← List.append_assoc, Nat.mul_one, ← el]
        exact List.take_left
    · exact (Below.refl _ _).drew.alloc (by simpa using hbase) _
theorem wpList_append_bs {w : World} {ops : Array Oper} {rest : List Oper} {o : Oper} {a : Act} {Q : Exit → Act → World → Prop} (hgd : o.guard = none) (sl x : Operand) (t u : TypeId)
    (ho : o.op = .call { callee := .builtin .append, args := #[sl, x], argTypes := #[t, u] })
    (base : Nat) (e : TypeId) (i : TypeInfo) (ht : P.underlying t = some (.slice e)) (hu : P.underlying u = some .string) (hi : P.info? e = some i) (hz : i.zero = some (.int .u8 0))
    (hsize : i.size = 1) (hby : i.bytes = 1) (v : Value) (xs : List Value) (hs : a.eval sl = v) (hown : OwnB w base v xs)
    (s : ByteArray) (hx : a.eval x = .string s) (hlen : xs.length + s.size ≤ 140737488355328) (hbase : base ≤ w.heap.size)
    (h : ∀ v' w', OwnB w' base v' (xs ++ Lib.strCells s) → Below base w w' → wpList P ops Q rest (a.put o.dst v') w') : wpList P ops Q (o :: rest) a w := by
  refine wpList_plain hgd fun K hK => ?_
  obtain ⟨v', w', hr, h2, h3⟩ := run_append_bs (P := P) w base t u o.type e i ht hu hi hz hsize hby v xs hown s hlen hbase
  unfold Oper.wp execOp
  simp only [ho, resolve, invoke, builtin, Sem.run_bind, Sem.run_pure, Result.andThen_ok, List.map_toArray, List.map_cons, List.map_nil, hs, hx, hr]
  exact hK _ _ (h v' w' h2 h3)
end
/-- The bytes of a list of numbers. -/
def putsL (xs : List Int) : List UInt8 := xs.flatMap putB
def putsB (xs : List Int) : List UInt8 := putB xs.length ++ putsL xs
theorem putsL_len (xs : List Int) : (putsL xs).length ≤ 11 * xs.length := by
  unfold putsL
  induction xs with
  | nil => simp
  | cons a l ih => rw [List.flatMap_cons, List.length_append, List.length_cons]; have := putB_len a; omega
theorem putsL_take (xs : List Int) (k : Nat) (h : k < xs.length) : putsL (xs.take (k + 1)) = putsL (xs.take k) ++ putB (xs.getD k 0) := by
  unfold putsL
  rw [List.take_succ_eq_append_getElem h, List.flatMap_append, List.flatMap_cons, List.flatMap_nil, List.append_nil, List.getD_eq_getElem?_getD, List.getElem?_eq_getElem h]
  rfl
theorem bytes_empty (b : ByteArray) : (⟨#[]⟩ : ByteArray) ++ b = b := by
  apply ByteArray.ext
  simp
theorem bytes_two (l m : List UInt8) : (⟨l.toArray⟩ : ByteArray) ++ ⟨m.toArray⟩ = ⟨(l ++ m).toArray⟩ := by
  apply ByteArray.ext
  simp
theorem strCells_list (l : List UInt8) : Lib.strCells ⟨l.toArray⟩ = Lib.byteCells l := rfl
theorem byteCells_app (l m : List UInt8) : Lib.byteCells (l ++ m) = Lib.byteCells l ++ Lib.byteCells m := by simp [Lib.byteCells]
/-- Numbers of the machine. -/
def I64s (xs : List Int) : Prop := ∀ k, k < xs.length → -9223372036854775808 ≤ xs.getD k 0 ∧ xs.getD k 0 < 9223372036854775808
def PutsPost (b : ByteArray) (xs : List Int) (w : World) (e : Ending) (w' : World) : Prop := e = .returned (.string (b ++ ⟨(putsB xs).toArray⟩)) ∧ Below w.heap.size w w'

end Go.Proofs.YtgbhaaongmlpkaaGreatDoor
namespace Go.Proofs.YtgbhaaongmlpkaaGreatDoor
open Go.RowKit Num

theorem app_str2 (b : ByteArray) (l : List UInt8) : (⟨(b.data.toList ++ l).toArray⟩ : ByteArray) = b ++ ⟨l.toArray⟩ := by
  apply ByteArray.ext
  rw [ByteArray.data_append]
  simp
theorem not_u64 (x : Nat) (hx : x < 18446744073709551616) : bits .xor .u64 IntKind.u64.max (x : Int) = ((18446744073709551615 - x : Nat) : Int) := by
  have e : IntKind.u64.max = ((18446744073709551615 : Nat) : Int) := by decide
  rw [e]
  have ha : (18446744073709551615 : Nat) % 2 ^ IntKind.u64.bits = 18446744073709551615 := by decide
  have hb : x % 2 ^ IntKind.u64.bits = x := Nat.mod_eq_of_lt hx
  have hn : (18446744073709551615 : Nat) ^^^ x = 18446744073709551615 - x := by
    have h := BitVec.toNat_not (x := BitVec.ofNat 64 x)
    have h2 : (~~~ BitVec.ofNat 64 x) = BitVec.allOnes 64 ^^^ BitVec.ofNat 64 x := by rw [BitVec.allOnes_xor]
    rw [h2, BitVec.toNat_xor, BitVec.toNat_allOnes, BitVec.toNat_ofNat, Nat.mod_eq_of_lt hx] at h
    exact h
  simp only [bits, BitVec.ofInt_natCast, BitVec.toNat_xor, BitVec.toNat_ofNat, ha, hb, hn]
  rw [IntKind.wrap_u64]
  omega
set_option maxRecDepth 100000 in
set_option maxHeartbeats 1000000 in
/-- The reference's, at any number of the machine. -/
theorem rf_PutIntG (b : ByteArray) (n : Int) (w : World) (h1 : -9223372036854775808 ≤ n) (h2 : n < 9223372036854775808) (hb : b.size < 4294967296) :
    Calls Tryz.prog 69 #[.string b, .int .i64 n] w (PutPost b n w) := by
  have hu := zig_lt n (by omega) (by omega)
  obtain ⟨i0, hi, hz0, hz1, hz2⟩ := info_parts infoB
  have ep : ∀ k, k ≤ 9 → (∀ j, j < k → 128 ≤ zig n / 128 ^ j) → zig n / 128 ^ k < 128 → putB n = vk (zig n) k ++ [UInt8.ofNat (zig n / 128 ^ k)] := by
    intro k hk h3 h4
    have := rdN_of 10 k (zig n) (by omega) h3 h4
    unfold putB; rw [this]
  have EP := Lib.hid ep
  clear ep
  have hbw := below_bytes w b 5
  have hob := ownB_bytes w b 5
  have hcv := fun (W : World) => Lib.run_convert_string_bytes (P := Tryz.prog) W 9 108 5 b Tryz.underlying9 Tryz.underlying108 Tryz.underlying5
  have HBW := Lib.hid hbw
  have HOB := Lib.hid hob
  have hbl : b.data.toList.length = b.size := by simp
  have HBL := Lib.hid hbl
  clear hbw hob hbl
  rcases (show 0 ≤ n ∨ n < 0 by omega) with hn | hn
  all_goals first
    | (have hn' : 0 ≤ n := by assumption
       have hx : n * 2 = ((zig n : Nat) : Int) := by unfold zig; rw [if_neg (by omega)]; omega
       have hw1 : IntKind.u64.wrap (n * 2) = n * 2 := by show (n * 2) % 18446744073709551616 = _; omega
       have hw2 : IntKind.u64.wrap n = n := by show n % 18446744073709551616 = _; omega
       have hn0 : decide (n < 0) = false := decide_eq_false (by omega)
       have HX := Lib.hid hx
       clear hx
       go_enter Tryz.func69, Tryz.ntmps69
       go_wp2_with fail
       rw [HX.out]
       clear hw1 hw2 hn0 hn' hn HX)
    | (have hn0 : decide (n < 0) = true := decide_eq_true (by omega)
       go_enter Tryz.func69, Tryz.ntmps69
       go_wp2_with fail
       have hx : bits .xor .u64 IntKind.u64.max (IntKind.u64.wrap (IntKind.u64.wrap n * 2)) = ((zig n : Nat) : Int) := by
         have h1' : IntKind.u64.wrap n = n + 18446744073709551616 := by rw [IntKind.wrap_u64]; omega
         have h2' : IntKind.u64.wrap ((n + 18446744073709551616) * 2) = ((2 * n + 18446744073709551616).toNat : Int) := by rw [IntKind.wrap_u64]; omega
         rw [h1', h2', not_u64 _ (by omega)]
         unfold zig
         rw [if_pos (by omega)]
         omega
       rw [hx]
       clear hx hn0 hn)
  all_goals
    generalize zig n = u at *
    clear hcv
    generalize (Lib.bytesWorld w 5 b) = w0 at *
    go_loopw [5, 6] (fun x v wr => ∃ k : Nat, x = .int .u64 ((u / 128 ^ k : Nat) : Int) ∧ OwnB wr w.heap.size v (Lib.byteCells (b.data.toList ++ vk u k)) ∧ Below w.heap.size w wr ∧ (∀ j, j < k → 128 ≤ u / 128 ^ j)) (fun x _ _ => (intOf x).toNat)
    case atStart => exact ⟨0, by simp, by simpa [vk] using HOB.out, HBW.out, fun j hj => by omega⟩
    case round =>
      clear HOB HBW
      obtain ⟨k, rfl, hown, hbl, hj⟩ := hrel
      have hk9 := u_small u k hu hj
      have hsz := hbl.size
      have hvl := vk_len u k
      obtain ⟨g, cap, rfl⟩ := hown.form (m := b.size + k) (by rw [cells_len, List.length_append, HBL.out, hvl])
      have HJ := Lib.hid hj
      have HB := Lib.hid hbl
      clear hj hbl
      obtain ⟨x, hx⟩ : ∃ x, u / 128 ^ k = x := ⟨_, rfl⟩
      have hxu : x ≤ u := by rw [← hx]; exact Nat.div_le_self _ _
      have hnext := div_pow_succ u k
      rw [hx] at hnext ⊢
      have HN := Lib.hid hnext
      have HXX := Lib.hid hx
      clear hnext hx
      have hor := or_more x
      by_cases h128 : 128 ≤ x
      · go_wp2_with (at_builtin; refine wpList_append_b rfl _ _ 108 rfl w.heap.size 5 i0 (.int .u8 0) Tryz.underlying108 hi hz0 hz1 hz2 rfl _ _ rfl (hown.alloc _) ⟨wr.heap.size, 0, none⟩ 1 (.int .u8 ((x % 128 + 128 : Nat) : Int)) rfl ?c1 rfl ?c2 ?c3 ?_)
        case c1 => simp
        case c2 => rw [cells_len, List.length_append, HBL.out, hvl]; omega
        case c3 => simp; omega
        intro v1 w3 hown3 hb3
        have HO3 : Hid (OwnB w3 w.heap.size v1 (Lib.byteCells (b.data.toList ++ vk u (k + 1)))) := Lib.hid (by
          rw [show vk u (k + 1) = vk u k ++ [UInt8.ofNat (u / 128 ^ k % 128 + 128)] from rfl, ← List.append_assoc, cells_snoc _ _ (by omega), HXX.out]; exact hown3)
        have HB3 := Lib.hid ((HB.out.alloc (by omega) _).trans hb3)
        clear hown3 hb3 hown HB hor
        go_wp2_with fail
        go_roundw
        case measure => simp [intOf]; omega
        case rel => exact ⟨k + 1, by rw [HN.out]; go_num, HO3.out, HB3.out, fun j hj => by
            rcases Nat.lt_or_ge j k with h | h
            · exact HJ.out j h
            · rw [show j = k by omega, HXX.out]; exact h128⟩
      · have e1 := EP.out k hk9 HJ.out (by rw [HXX.out]; omega)
        rw [HXX.out] at e1
        have E1 := Lib.hid e1
        clear e1
        have hx256 : ((x : Nat) : Int) % 256 = (x : Int) := by omega
        go_wp2_with (at_builtin; refine wpList_append_b rfl _ _ 108 rfl w.heap.size 5 i0 (.int .u8 0) Tryz.underlying108 hi hz0 hz1 hz2 rfl _ _ rfl (hown.alloc _) ⟨wr.heap.size, 0, none⟩ 1 (.int .u8 ((x : Nat) : Int)) rfl ?c1 rfl ?c2 ?c3 ?_)
        case c1 => simp
        case c2 => rw [cells_len, List.length_append, HBL.out, hvl]; omega
        case c3 => simp; omega
        intro v1 w3 hown3 hb3
        have hown4 : OwnB w3 w.heap.size v1 (Lib.byteCells (b.data.toList ++ putB n)) := by
          rw [E1.out, ← List.append_assoc, cells_snoc _ _ (by omega)]; exact hown3
        have hl : (b.data.toList ++ putB n).length = b.size + k + 1 := by rw [E1.out, List.length_append, List.length_append, HBL.out, hvl]; rfl
        obtain ⟨g1, cap1, rfl⟩ := hown4.form (m := b.size + k + 1) (by rw [cells_len, hl])
        have hcv := own_string w3 _ _ _ _ _ hown4 hl
        rw [app_str2] at hcv
        have HB3 := Lib.hid ((HB.out.alloc (by omega) _).trans hb3)
        clear hown3 hb3 hown HB hor hown4
        go_wp2_with fail
        go_ret
        exact ⟨rfl, HB3.out⟩
end Go.Proofs.YtgbhaaongmlpkaaGreatDoor
