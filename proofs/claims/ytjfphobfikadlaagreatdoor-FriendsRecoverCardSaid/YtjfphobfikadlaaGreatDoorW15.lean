/- The reference's padding. Contracts: the bytes of lists of numbers. Contracts: sixteen bytes as elements of three bytes each. Contracts: the mark of a share: the program's. -/
import Derived.Test.YtjfphobfikadlaaGreatDoorW14
import Derived.Test.YtjfphobfikadlaaGreatDoorW03
import Derived.Lib.AppendStr
import Derived.Test.YtjfphobfikadlaaGreatDoorW13
set_option linter.unusedVariables false
set_option linter.unusedSimpArgs false
namespace Go.Proofs.YtjfphobfikadlaaGreatDoor
open Go.RowKit Num

theorem repeatL_rep (n : Nat) : Lib.repeatL [0] n = List.replicate n (0 : UInt8) := by
  induction n with
  | zero => rfl
  | succ k ih => simp [Lib.repeatL, ih, List.replicate_succ]
/-- What was laid so far. -/
def padK (s : List UInt8) (k : Nat) : List UInt8 := s ++ [128] ++ List.replicate k 0
theorem padK_len (s : List UInt8) (k : Nat) : (padK s k).length = s.length + 1 + k := by simp [padK]; omega
theorem padK_next (s : List UInt8) (k : Nat) : padK s (k + 1) = padK s k ++ [0] := by simp [padK, List.replicate_succ']
theorem cells_len (l : List UInt8) : (Lib.byteCells l).length = l.length := by simp [Lib.byteCells]
theorem OwnB.form {w : World} {base : Nat} {v : Value} {xs : List Value} {m : Nat} (h : OwnB w base v xs) (hm : xs.length = m) : ∃ g cap, v = .slice (some ⟨g, 0, none⟩) m cap := by
  obtain ⟨g, cap, rfl, _⟩ := h
  exact ⟨g, cap, by rw [hm]⟩
theorem cells_snoc (l : List UInt8) (c : Nat) (h : c < 256) : Lib.byteCells (l ++ [UInt8.ofNat c]) = Lib.byteCells l ++ [.int .u8 (c : Int)] := byteCells_snoc1 l c h

set_option maxRecDepth 100000 in
theorem own_string (w : World) (base g m cap : Nat) (l : List UInt8) (h : OwnB w base (.slice (some ⟨g, 0, none⟩) m cap) (Lib.byteCells l)) (hm : l.length = m) :
    (convert 91 9 (.slice (some ⟨g, 0, none⟩) m cap)).run Tryz.prog w = .ok (.string ⟨l.toArray⟩) w := by
  subst hm
  obtain ⟨g', cap', e, h1, h2, h3, h4, h5⟩ := h
  injection e with e1 e2 e3
  injection e1 with e1
  injection e1 with e1
  subst e1 e3
  have hcv := run_convert_bytes_arg (P := Tryz.prog) w 91 5 Tryz.underlying91 Tryz.underlying5 g 0 l.length cap (l.map fun c => (c.toNat : Int)) (by simp) (fun i hi => by
    rw [Nat.zero_add, h5 i _ (by unfold Lib.byteCells; rw [List.getElem?_map, List.getElem?_eq_getElem hi]; rfl), List.getD_eq_getElem?_getD, List.getElem?_map, List.getElem?_eq_getElem hi]; rfl) 9 Tryz.underlying9
  have hst : strOfNums (l.map fun c => (c.toNat : Int)) = ⟨l.toArray⟩ := by
    unfold strOfNums
    congr 2
    rw [List.map_map]
    conv => rhs; rw [← List.map_id l]
    congr 1
    funext c
    simp
  rwa [hst] at hcv
theorem zerosN_lt (n : Nat) : zerosN n < 64 := Nat.mod_lt _ (by decide)
theorem padS_eq (s : ByteArray) (hl : s.data.toList.length = s.size) : padS s = ⟨(padK s.data.toList (zerosN s.size) ++ lenB s.size 8).toArray⟩ := by
  unfold padS padL padK
  rw [repeatL_rep, hl]

set_option maxRecDepth 100000 in
set_option maxHeartbeats 1000000 in
theorem rf_pad (s : ByteArray) (w : World) (hs : s.size < 4294967296) :
    Calls Tryz.prog 63 #[.string s] w fun e w' => e = .returned (.string (padS s)) ∧ Below w.heap.size w w' := by
  obtain ⟨i0, hi, hz0, hz1, hz2⟩ := info_parts infoB
  have hbw := below_bytes w s 5
  have hob := ownB_bytes w s 5
  have hcv := fun (W : World) => Lib.run_convert_string_bytes (P := Tryz.prog) W 9 91 5 s Tryz.underlying9 Tryz.underlying91 Tryz.underlying5
  have hbs := Lib.bytesWorld_size w 5 s
  have hl0 : s.data.toList.length = s.size := by simp
  have HL := Lib.hid hl0
  clear hl0
  go_enter Tryz.func63, Tryz.ntmps63
  go_wp2_with (at_builtin; refine wpList_append_b rfl _ _ 91 rfl w.heap.size 5 i0 (.int .u8 0) Tryz.underlying91 hi hz0 hz1 hz2 rfl _ _ rfl (hob.alloc _) ⟨w.heap.size + 1, 0, none⟩ 1 (.int .u8 128) rfl ?c1 rfl ?c2 ?c3 ?_)
  case c1 => rw [← hbs]; simp
  case c2 => rw [cells_len, HL.out]; omega
  case c3 => simp; omega
  intro v' w2 hown' hb2
  have hbl : Below w.heap.size w w2 := (hbw.alloc (by omega) _).trans hb2
  have hown0 : OwnB w2 w.heap.size v' (Lib.byteCells (padK s.data.toList 0)) := by
    have := cells_snoc s.data.toList 128 (by omega)
    unfold padK
    rw [List.replicate_zero, List.append_nil]
    rw [show (128 : UInt8) = UInt8.ofNat 128 from rfl, this]
    exact hown'
  have HO := Lib.hid hown0
  have HB := Lib.hid hbl
  clear hown' hb2 hbl hown0 hob hbw hbs hcv
  go_wp2_with fail
  go_loopw [3] (fun v wr => ∃ k : Nat, k ≤ zerosN s.size ∧ OwnB wr w.heap.size v (Lib.byteCells (padK s.data.toList k)) ∧ Below w.heap.size w wr) (fun v _ => 64 + s.size - (match v with | .slice _ n _ => n | _ => 0))
  case atStart => exact ⟨0, Nat.zero_le _, HO.out, HB.out⟩
  case round =>
    clear HO HB
    obtain ⟨k, hk, hown, hbl⟩ := hrel
    obtain ⟨g, cap, rfl⟩ := hown.form (m := s.size + 1 + k) (by rw [cells_len, padK_len, HL.out])
    have hz : zerosN s.size = (119 - s.size % 64) % 64 := rfl
    have HO := Lib.hid hown
    have HB := Lib.hid hbl
    have hsz := hbl.size
    clear hbl
    by_cases hl : k < zerosN s.size
    · have ht : ((s.size + 1 + k : Nat) : Int) % 64 ≠ 56 := by omega
      go_wp2_with (at_builtin; refine wpList_append_b rfl _ _ 91 rfl w.heap.size 5 i0 (.int .u8 0) Tryz.underlying91 hi hz0 hz1 hz2 rfl _ _ rfl (hown.alloc _) ⟨wr.heap.size, 0, none⟩ 1 (.int .u8 0) rfl ?c1 rfl ?c2 ?c3 ?_)
      case c1 => simp
      case c2 => rw [cells_len, padK_len, HL.out]; omega
      case c3 => simp; omega
      intro v1 w3 hown3 hb3
      have HO3 : Hid (OwnB w3 w.heap.size v1 (Lib.byteCells (padK s.data.toList (k + 1)))) := Lib.hid (by
        rw [padK_next, show (0 : UInt8) = UInt8.ofNat 0 from rfl, cells_snoc _ 0 (by omega)]; exact hown3)
      have HB3 := Lib.hid ((HB.out.alloc (by omega) _).trans hb3)
      obtain ⟨g1, cap1, rfl⟩ := HO3.out.form (m := s.size + 1 + (k + 1)) (by rw [cells_len, padK_len, HL.out])
      clear hown3 hb3 hown HO HB
      go_wp2_with fail
      go_roundw
      case measure => dsimp only; omega
      case rel => exact ⟨k + 1, by omega, HO3.out, HB3.out⟩
    · have hkz : k = zerosN s.size := by omega
      have ht : ((s.size + 1 + k : Nat) : Int) % 64 = 56 := by omega
      subst hkz
      clear hown hz
      generalize hZ : zerosN s.size = z at *
      have HZ := Lib.hid hZ
      clear hZ
      have e8 : ∀ j : Nat, j < 8 → IntKind.u64.wrap (56 - 8 * (j : Int)) = 56 - 8 * (j : Int) := fun j hj => by show (56 - 8 * (j : Int)) % 18446744073709551616 = _; omega
      have hl8 : IntKind.u64.wrap ((s.size : Int) * 8) = (s.size : Int) * 8 := by show ((s.size : Int) * 8) % 18446744073709551616 = _; omega
      have hqt : (((s.size : Int) + 1 + (z : Int)) % 64 != 56) = false := by
        have : ((s.size : Int) + 1 + (z : Int)) % 64 = 56 := by omega
        rw [this]; rfl
      clear ht
      go_wp2_with fail
      obtain ⟨wA, hwA⟩ : ∃ wA, wA = wr := ⟨wr, rfl⟩
      subst hwA
      go_loopw [3, 4] (fun v i wr => ∃ j : Nat, j ≤ 8 ∧ i = .int .i64 (56 - 8 * (j : Int)) ∧ OwnB wr w.heap.size v (Lib.byteCells (padK s.data.toList z ++ lenB s.size j)) ∧ Below w.heap.size w wr) (fun _ i _ => (intOf i + 8).toNat)
      case atStart => exact ⟨0, by omega, rfl, by simpa [lenB] using HO.out, HB.out⟩
      case round =>
        clear HO HB
        obtain ⟨j, hj, rfl, hown, hbl⟩ := hrel
        obtain ⟨g1, cap1, rfl⟩ := hown.form (m := s.size + 1 + z + j) (by rw [cells_len, List.length_append, padK_len, HL.out, lenB_len])
        have HO := Lib.hid hown
        have HB := Lib.hid hbl
        have hsz := hbl.size
        clear hbl
        by_cases hj8 : j < 8
        · have e8j := e8 j hj8
          have hge : (0 : Int) ≤ 56 - 8 * (j : Int) := by omega
          have h64 : 56 - 8 * (j : Int) < 64 := by omega
          clear e8
          go_wp2_with (at_builtin; refine wpList_append_b rfl _ _ 91 rfl w.heap.size 5 i0 (.int .u8 0) Tryz.underlying91 hi hz0 hz1 hz2 rfl _ _ rfl (hown.alloc _) ⟨wr.heap.size, 0, none⟩ 1 (.int .u8 ((s.size : Int) * 8 / 2 ^ (56 - 8 * j) % 256)) rfl ?c1 rfl ?c2 ?c3 ?_)
          case c1 => simp
          case c2 => rw [cells_len, List.length_append, padK_len, HL.out, lenB_len]; have := zerosN_lt s.size; rw [HZ.out] at this; omega
          case c3 => simp; omega
          intro v1 w3 hown3 hb3
          have HO3 : Hid (OwnB w3 w.heap.size v1 (Lib.byteCells (padK s.data.toList z ++ lenB s.size (j + 1)))) := Lib.hid (by
            rw [show lenB s.size (j + 1) = lenB s.size j ++ [UInt8.ofNat (s.size * 8 / 2 ^ (8 * (7 - j)) % 256)] from rfl, ← List.append_assoc, cells_snoc _ _ (Nat.mod_lt _ (by decide)), show 8 * (7 - j) = 56 - 8 * j by omega]
            have e : ((s.size * 8 / 2 ^ (56 - 8 * j) % 256 : Nat) : Int) = (s.size : Int) * 8 / 2 ^ (56 - 8 * j) % 256 := by
              simp only [Int.natCast_emod, Int.natCast_ediv, Int.natCast_mul, Int.natCast_pow]; rfl
            rw [e]; exact hown3)
          have HB3 := Lib.hid ((HB.out.alloc (by omega) _).trans hb3)
          clear hown3 hb3 hown HO HB e8j
          go_wp2_with fail
          go_roundw
          case measure => simp [intOf]; omega
          case rel => exact ⟨j + 1, by omega, by go_num, HO3.out, HB3.out⟩
        · have hj2 : j = 8 := by omega
          subst hj2
          clear e8
          have hcv := own_string wr _ _ _ _ _ hown (by rw [List.length_append, padK_len, HL.out, lenB_len])
          clear hown
          go_wp2_with fail
          go_ret
          refine ⟨?_, HB.out⟩
          rw [padS_eq s HL.out, HZ.out]
          rfl
end Go.Proofs.YtjfphobfikadlaaGreatDoor
namespace Go.Proofs.YtjfphobfikadlaaGreatDoor
open Go.RowKit Num

theorem OwnB.below {w w' : World} {base : Nat} {v : Value} {xs : List Value} (h : OwnB w base v xs) (hb : Below w.heap.size w w') : OwnB w' base v xs :=
  h.of_block (fun g hg => hb.block g hg) hb.size
section
variable {P : Program}
theorem run_append_bs (w : World) (base : Nat) (t u ty e : TypeId) (i : TypeInfo) (ht : P.underlying t = some (.slice e)) (hu : P.underlying u = some .string) (hi : P.info? e = some i) (hz : i.zero = some (.int .u8 0))
    (hsize : i.size = 1) (hby : i.bytes = 1) (v : Value) (xs : List Value) (hown : OwnB w base v xs)
    (s : ByteArray) (hlen : xs.length + s.size ≤ 140737488355328) (hbase : base ≤ w.heap.size) :
    ∃ v' w', (Builtin.append_ #[t, u] ty #[v, .string s]).run P w = .ok v' w' ∧ OwnB w' base v' (xs ++ Lib.strCells s) ∧ Below base w w' := by
  obtain ⟨g, cap, rfl, hb1, hb2, hb3, hb4, hb5⟩ := hown
  have hsl := Lib.strCells_length s
  by_cases hr : xs.length + s.size ≤ cap
  · have hf := Lib.run_firstCells_string (P := P) w 1 s
    have hst := run_storeCells_cells (P := P) g xs.length (Lib.strCells s) 0 w (by intro j hj; simpa using (hb4 (xs.length + j) (by omega)).1) (by intro j hj; simpa using (hb4 (xs.length + j) (by omega)).2) (Lib.strCells_oneCell s)
    simp only [Nat.add_zero] at hst
    have hrun : (Builtin.append_ #[t, u] ty #[.slice (some ⟨g, 0, none⟩) xs.length cap, .string s]).run P w = .ok (.slice (some ⟨g, 0, none⟩) (xs.length + s.size) cap) (w.setCells g xs.length (Lib.strCells s)) := by
      simp [Builtin.append_, run_underlying ht, run_underlying hu, sizeOf, typeInfo, hi, hsize, Builtin.lenOf, hr, hf, Addr.add_lit, hst]
    have hin := World.cell?_setCells_in g (Lib.strCells s) xs.length w (fun j hj => (hb4 _ (by omega)).1)
    have hout := fun (x : Addr) hx => World.cell?_setCells_out g (Lib.strCells s) xs.length w x hx
    have hfz := fun (x : Addr) => World.frozen?_setCells g (Lib.strCells s) xs.length w x
    have hsz : (w.setCells g xs.length (Lib.strCells s)).heap.size = w.heap.size := by
      have : ∀ (vs : List Value) (o : Nat) (w : World), (w.setCells g o vs).heap.size = w.heap.size := by
        intro vs
        induction vs with
        | nil => intro o w; rfl
        | cons a l ih => intro o w; show ((w.setCell ⟨g, o, none⟩ a).setCells g (o + 1) l).heap.size = _; rw [ih]; simp [World.setCell]
      exact this _ _ _
    have hbel : Below base w (w.setCells g xs.length (Lib.strCells s)) := by
      have : ∀ (vs : List Value) (o : Nat) (w : World), Below base w (w.setCells g o vs) := by
        intro vs
        induction vs with
        | nil => intro o w; exact Below.refl _ _
        | cons a l ih => intro o w; exact ((Below.refl base w).setCell (p := ⟨g, o, none⟩) hb1 a).trans (ih (o + 1) _)
      exact this _ _ _
    refine ⟨_, _, hrun, ⟨g, cap, by rw [List.length_append, hsl], hb1, by rw [hsz]; exact hb2, by rw [List.length_append, hsl]; exact hr, fun j hj => ⟨?_, by rw [hfz]; exact (hb4 j hj).2⟩, fun j x hx => ?_⟩, hbel⟩
    · by_cases hin1 : xs.length ≤ j ∧ j < xs.length + s.size
      · have := hin (j - xs.length) (by omega)
        rw [show xs.length + (j - xs.length) = j by omega] at this
        rw [this]; rfl
      · rw [hout ⟨g, j, none⟩ (fun _ _ => by show j < xs.length ∨ _ ≤ j; omega)]
        exact (hb4 j hj).1
    · by_cases hj : j < xs.length
      · rw [hout ⟨g, j, none⟩ (fun _ _ => .inl hj)]
        refine hb5 j x ?_
        rwa [List.getElem?_append_left hj] at hx
      · rw [List.getElem?_append_right (by omega)] at hx
        obtain ⟨hj2, hx2⟩ := List.getElem?_eq_some_iff.1 hx
        have := hin (j - xs.length) hj2
        rw [show xs.length + (j - xs.length) = j by omega] at this
        rw [this, hx2]
  · have hrun := Lib.run_append_grow_string (P := P) w t u ty e i (.int .u8 0) ht hu hi hz ⟨g, 0, none⟩ xs.length cap xs (by rw [hsize]; simp) (fun j x hx => by rw [addr_add]; exact hb5 j x hx) s (by omega) (by omega) (by rw [hby]; exact growslice_fits (by omega) (by omega))
    have hge := grownCap_ge w (xs.length + s.size) cap e
    refine ⟨_, _, hrun, OwnB.of_row (e := e) ?_ (by rw [List.length_append, hsl]; omega), ?_⟩
    · rw [List.length_append, hsl]
      refine ⟨by rw [List.length_append, hsl, Nat.mul_one], .inr ⟨w.heap.size, _, _, rfl, hbase, heap_alloc_new w.drew _, hge, ?_, ?_, ?_⟩⟩
      · exact grownCap_le_maxLen w (xs.length + s.size) cap e (by simp only [maxLen]; omega)
      · have hz1 : (Value.int IntKind.u8 0).cells.size = 1 := rfl
        simp only [Array.size_append, List.size_toArray, size_zeroCells, hz1, hsl]
        omega
      · have el : (xs ++ Lib.strCells s).length = xs.length + s.size := by rw [List.length_append, hsl]
        simp only [Array.toList_append, List.append_assoc]
        rw [← List.append_assoc, Nat.mul_one, ← el]
        exact List.take_left
    · exact (Below.refl _ _).drew.alloc (by simpa using hbase) _
theorem wpList_append_bs {w : World} {ops : Array Oper} {rest : List Oper} {o : Oper} {a : Act} {Q : Exit → Act → World → Prop} (hgd : o.guard = none) (sl x : Operand) (t u : TypeId)
    (ho : o.op = .call { callee := .builtin .append, args := #[sl, x], argTypes := #[t, u] })
    (base : Nat) (e : TypeId) (i : TypeInfo) (ht : P.underlying t = some (.slice e)) (hu : P.underlying u = some .string) (hi : P.info? e = some i) (hz : i.zero = some (.int .u8 0))
    (hsize : i.size = 1) (hby : i.bytes = 1) (v : Value) (xs : List Value) (hs : a.eval sl = v) (hown : OwnB w base v xs)
    (s : ByteArray) (hx : a.eval x = .string s) (hlen : xs.length + s.size ≤ 140737488355328) (hbase : base ≤ w.heap.size)
    (h : ∀ v' w', OwnB w' base v' (xs ++ Lib.strCells s) → Below base w w' → wpList P ops Q rest (a.put o.dst v') w') : wpList P ops Q (o :: rest) a w := by
  refine wpList_plain hgd fun K hK => ?_
  obtain ⟨v', w', hr, h2, h3⟩ := run_append_bs (P := P) w base t u o.type e i ht hu hi hz hsize hby v xs hown s hlen hbase
  unfold Oper.wp execOp
  simp only [ho, resolve, invoke, builtin, Sem.run_bind, Sem.run_pure, Result.andThen_ok, List.map_toArray, List.map_cons, List.map_nil, hs, hx, hr]
  exact hK _ _ (h v' w' h2 h3)
end
/-- The bytes of a list of numbers. -/
def putsL (xs : List Int) : List UInt8 := xs.flatMap putB
def putsB (xs : List Int) : List UInt8 := putB xs.length ++ putsL xs
theorem putsL_len (xs : List Int) : (putsL xs).length ≤ 11 * xs.length := by
  unfold putsL
  induction xs with
  | nil => simp
  | cons a l ih => rw [List.flatMap_cons, List.length_append, List.length_cons]; have := putB_len a; omega
theorem putsL_take (xs : List Int) (k : Nat) (h : k < xs.length) : putsL (xs.take (k + 1)) = putsL (xs.take k) ++ putB (xs.getD k 0) := by
  unfold putsL
  rw [List.take_succ_eq_append_getElem h, List.flatMap_append, List.flatMap_cons, List.flatMap_nil, List.append_nil, List.getD_eq_getElem?_getD, List.getElem?_eq_getElem h]
  rfl
theorem bytes_empty (b : ByteArray) : (⟨#[]⟩ : ByteArray) ++ b = b := by
  apply ByteArray.ext
  simp
theorem bytes_two (l m : List UInt8) : (⟨l.toArray⟩ : ByteArray) ++ ⟨m.toArray⟩ = ⟨(l ++ m).toArray⟩ := by
  apply ByteArray.ext
  simp
theorem strCells_list (l : List UInt8) : Lib.strCells ⟨l.toArray⟩ = Lib.byteCells l := rfl
theorem byteCells_app (l m : List UInt8) : Lib.byteCells (l ++ m) = Lib.byteCells l ++ Lib.byteCells m := by simp [Lib.byteCells]
/-- Numbers of the machine. -/
def I64s (xs : List Int) : Prop := ∀ k, k < xs.length → -9223372036854775808 ≤ xs.getD k 0 ∧ xs.getD k 0 < 9223372036854775808
def PutsPost (b : ByteArray) (xs : List Int) (w : World) (e : Ending) (w' : World) : Prop := e = .returned (.string (b ++ ⟨(putsB xs).toArray⟩)) ∧ Below w.heap.size w w'

set_option maxRecDepth 100000 in
set_option maxHeartbeats 1000000 in
theorem c_putList (b : ByteArray) (v : Value) (xs : List Int) (S : Nat → Prop) (w : World) (hv : IntsAt w S v xs) (hS : ∀ b, S b → b < w.heap.size) (hl : xs.length ≤ 1000000) (hr : I64s xs) (hb : b.size < 4294967296) :
    Calls Tryz.prog 147 #[.string b, v, .func (.func 103) #[] #[]] w (PutsPost b xs w) := by
  obtain ⟨A, n, c, rfl, hn, hnc, hcc⟩ := hv
  obtain ⟨i0, hi, hz0, hz1, hz2⟩ := info_parts infoB
  have hp0 := fun (n : Int) (W : World) h1 h2 => c_PutInt ⟨#[]⟩ n W h1 h2 (by decide)
  unfold PutPost at hp0
  simp only [bytes_empty] at hp0
  have hcv := fun (W : World) (s : ByteArray) => Lib.run_convert_string_bytes (P := Tryz.prog) W 9 91 5 s Tryz.underlying9 Tryz.underlying91 Tryz.underlying5
  obtain ⟨len, hlen⟩ : ∃ l : List UInt8, putB (n : Int) = l := ⟨_, rfl⟩
  have hll : len.length ≤ 11 := by rw [← hlen]; exact putB_len _
  have hpb : putsB xs = len ++ putsL xs := by unfold putsB; rw [← hn, hlen]
  have HP0 := Lib.hid hp0
  have HCV := Lib.hid hcv
  have HN := Lib.hid hn
  have HCC := Lib.hid hcc
  have HR := Lib.hid hr
  have HLEN := Lib.hid hlen
  have HPB := Lib.hid hpb
  have hn6 : n ≤ 1000000 := by omega
  clear hn hcc hr hp0 hcv hlen hpb hl
  have hw0 : w.heap.size ≤ w.heap.size := Nat.le_refl _
  go_enter Tryz.func147, Tryz.ntmps147
  go_wp2_with fail
  refine (HP0.out (n : Int) _ (by omega) (by omega)).mono ?_
  rintro e w1 ⟨rfl, hb1⟩
  rw [HLEN.out]
  have hob := ownB_bytes w1 ⟨len.toArray⟩ 5
  have hbw := below_bytes w1 ⟨len.toArray⟩ 5
  have hcv1 := HCV.out w1 ⟨len.toArray⟩
  have hbl : Below w.heap.size w (Lib.bytesWorld w1 5 ⟨len.toArray⟩) := hb1.trans (hbw.mono hb1.size)
  have hs1 := hb1.size
  have hob1 : OwnB (Lib.bytesWorld w1 5 ⟨len.toArray⟩) w.heap.size (.slice (some ⟨w1.heap.size, 0, none⟩) (⟨len.toArray⟩ : ByteArray).size (grownCap w1 (⟨len.toArray⟩ : ByteArray).size 0 5)) (Lib.byteCells len) := by
    obtain ⟨g, cap, h1, h2, h3⟩ := hob
    exact ⟨g, cap, h1, by omega, h3⟩
  rw [show (⟨len.toArray⟩ : ByteArray).size = len.length from by show len.toArray.size = _; simp] at hob1
  have HOB := Lib.hid hob1
  have HBL := Lib.hid hbl
  clear hob hbw hbl hob1 hb1
  go_wp2_with fail
  clear hcv1
  generalize Lib.bytesWorld w1 5 ⟨len.toArray⟩ = w2 at *
  go_loopw [8, 18] (fun v t wr => ∃ k : Nat, k ≤ n ∧ t = .int .i64 (k : Int) ∧ OwnB wr w.heap.size v (Lib.byteCells (len ++ putsL (xs.take k))) ∧ Below w.heap.size w wr) (fun _ t _ => n - (intOf t).toNat)
  case atStart => exact ⟨0, by omega, rfl, by simpa [putsL] using HOB.out, HBL.out⟩
  case round =>
    clear HOB HBL
    obtain ⟨k, hk, rfl, hown, hbl⟩ := hrel
    have hpl := putsL_len (xs.take k)
    have hml : (len ++ putsL (xs.take k)).length ≤ 12000000 := by
      rw [List.length_append]
      have : (xs.take k).length ≤ k := by rw [List.length_take]; omega
      omega
    obtain ⟨m, hm⟩ : ∃ m, (len ++ putsL (xs.take k)).length = m := ⟨_, rfl⟩
    obtain ⟨g, cap, rfl⟩ := hown.form (m := m) (by rw [cells_len, hm])
    rw [hm] at hml
    have HM := Lib.hid hm
    have HO := Lib.hid hown
    have HB := Lib.hid hbl
    clear hown hbl hm hpl
    by_cases hlt : k < n
    · obtain ⟨b0, off, rfl, hlt0, hcell⟩ := HCC.out (by omega)
      have cx := (HB.out.cell (p := ⟨b0, off + k, none⟩) (hS _ hlt0)).trans (hcell k hlt)
      have bx := HR.out k (by have := HN.out; omega)
      have hnext := putsL_take xs k (by have := HN.out; omega)
      obtain ⟨x, hx⟩ : ∃ x, xs.getD k 0 = x := ⟨_, rfl⟩
      rw [hx] at cx bx hnext
      have hxl := putB_len x
      have hz : (⟨(putB x).toArray⟩ : ByteArray).size ≤ 11 := by show (putB x).toArray.size ≤ 11; simpa using hxl
      have HNX := Lib.hid hnext
      have HZ := Lib.hid hz
      have qk : (k : Int) < (n : Int) := by omega
      have qk0 : (0 : Int) ≤ (k : Int) := by omega
      clear hx hcell hnext hxl hz
      go_wp2_with fail
      refine (HP0.out x _ bx.1 bx.2).mono ?_
      rintro e w3 ⟨rfl, hb3⟩
      have hown3 := HO.out.below hb3
      have HB3 := Lib.hid (HB.out.trans (hb3.mono HB.out.size))
      clear hb3 HO
      go_wp2_with (at_builtin; refine wpList_append_bs rfl _ _ 91 9 rfl w.heap.size 5 i0 Tryz.underlying91 Tryz.underlying9 hi hz0 hz1 hz2 _ _ rfl hown3 ⟨(putB x).toArray⟩ rfl ?c2 ?c3 ?_)
      case c2 => rw [cells_len, HM.out]; have := HZ.out; omega
      case c3 => exact HB3.out.size
      intro v4 w4 hown4 hb4
      rw [strCells_list, ← byteCells_app, List.append_assoc, ← HNX.out] at hown4
      have HO4 := Lib.hid hown4
      have HB4 := Lib.hid (HB3.out.trans hb4)
      clear hown3 hown4 hb4 HB3 HB
      go_wp2_with fail
      go_roundw
      case measure => simp [intOf]; omega
      case rel => exact ⟨k + 1, by omega, by go_num, HO4.out, HB4.out⟩
    · have hkn : k = n := by omega
      subst hkn
      have htk : xs.take k = xs := by rw [List.take_of_length_le (by have := HN.out; omega)]
      rw [htk] at HO HM
      have hcv := own_string wr _ _ _ _ _ HO.out HM.out
      have hsz : (⟨(len ++ putsL xs).toArray⟩ : ByteArray).size ≤ 12000000 := by show (len ++ putsL xs).toArray.size ≤ _; rw [List.size_toArray, HM.out]; exact hml
      clear HM htk
      go_wp2_with fail
      go_ret
      exact ⟨by rw [HPB.out]; rfl, HB.out⟩
theorem c_PutInts (b : ByteArray) (v : Value) (xs : List Int) (S : Nat → Prop) (w : World) (hv : IntsAt w S v xs) (hS : ∀ b, S b → b < w.heap.size) (hl : xs.length ≤ 1000000) (hr : I64s xs) (hb : b.size < 4294967296) :
    Calls Tryz.prog 102 #[.string b, v] w (PutsPost b xs w) := by
  have h := c_putList b v xs S w hv hS hl hr hb
  have H := Lib.hid h
  clear h hv hr
  go_enter Tryz.func102, Tryz.ntmps102
  go_wp2_with fail
  refine H.out.mono ?_
  rintro e w1 ⟨rfl, hb1⟩
  go_wp2_with fail
  go_ret
  exact ⟨rfl, hb1⟩
end Go.Proofs.YtjfphobfikadlaaGreatDoor
namespace Go.Proofs.YtjfphobfikadlaaGreatDoor
open Go.RowKit Num

theorem ext_take (q : ByteArray) (m : Nat) : (q.extract 0 m).data.toList = q.data.toList.take m := by
  rw [ByteArray.data_extract, Array.toList_extract]; simp
theorem ext_size (q : ByteArray) (m : Nat) (h : m ≤ q.size) : (q.extract 0 m).size = m := by
  rw [ByteArray.size_extract]; omega
/-- A part of a string as bytes. -/
theorem conv_part (w : World) (s : ByteArray) (l : List UInt8) (m : Nat) (hl : s.data.toList = l) (hm : l.length = m) :
    ∃ cap w2, (convert 9 91 (.string s)).run Tryz.prog w = .ok (.slice (some ⟨w.heap.size, 0, none⟩) m cap) w2 ∧ m ≤ cap ∧ Below w.heap.size w w2 ∧
      ∀ j c, l[j]? = some c → w2.cell? ⟨w.heap.size, j, none⟩ = some (.int .u8 (c.toNat : Int)) := by
  have hcv := Lib.run_convert_string_bytes (P := Tryz.prog) w 9 91 5 s Tryz.underlying9 Tryz.underlying91 Tryz.underlying5
  have hob := ownB_bytes w s 5
  have hbl := below_bytes w s 5
  have hsm : s.size = m := by rw [← hm, ← hl]; rfl
  rw [hsm] at hcv hob
  obtain ⟨g, cap, e, h1, h2, h3, h4, h5⟩ := hob
  injection e with e1 e2 e3
  injection e1 with e1
  injection e1 with e1
  have hl2 : (Lib.byteCells s.data.toList).length = m := by rw [hl]; simp [Lib.byteCells, hm]
  rw [hl2] at h3
  refine ⟨_, _, hcv, by omega, hbl, fun j c h => ?_⟩
  rw [e1]
  exact h5 j _ (by rw [hl]; unfold Lib.byteCells; rw [List.getElem?_map, h]; rfl)
theorem wid3 {p : Nat} (h : 16777216 ≤ p) : widP p = 3 := by
  unfold widP; rw [if_neg (show ¬ p < 256 by omega), if_neg (show ¬ p < 65536 by omega), if_neg (show ¬ p < 16777216 by omega)]
theorem cnt3 {p : Nat} (h : 16777216 ≤ p) : cntP p = 6 := by unfold cntP; rw [wid3 h]; rfl
theorem chunk_take (l : List UInt8) (j : Nat) (h : j < l.length) : chunkN (l.take (j + 1)) = chunkN (l.take j) * 256 + (l[j]).toNat := by
  rw [List.take_succ_eq_append_getElem h, chunk_snoc]
theorem pack3_part (l : List UInt8) (k : Nat) (h : k < (l.length + 2) / 3) : (pack3 l).take (k + 1) = (pack3 l).take k ++ [((pk3 l k : Nat) : Int)] := by
  have hk : k < (pack3 l).length := by rw [pack3_len]; exact h
  rw [List.take_succ_eq_append_getElem hk]
  have e := pack3_get l k h
  rw [List.getD_eq_getElem?_getD, List.getElem?_eq_getElem hk] at e
  rw [← e]; rfl
set_option maxRecDepth 100000 in
set_option maxHeartbeats 4000000 in
theorem p_Pack3 (p : Nat) (s : ByteArray) (w : World) (hw : BasesOk w) (hp : Prm p) (h1 : 16777216 ≤ p) (h2 : p ≤ 1073741824) (hs : s.size = 16) :
    Calls Tryz.prog 67 #[.int .i64 (p : Int), .string s] w (IntsPost2 (pack3 s.data.toList) w) := by
  obtain ⟨i0, hi, hz0, hz1, hz2⟩ := info_parts infoI
  have hv := f_Valid p w hw hp h2
  have hwid := fun W => p_Width p W h2
  rw [wid3 h1] at hwid
  have hcnt := fun W => p_Count p W h2
  rw [cnt3 h1] at hcnt
  have hll : s.data.toList.length = 16 := by simpa using hs
  have HV := Lib.hid hv
  have HWID := Lib.hid hwid
  have HCNT := Lib.hid hcnt
  have HLL := Lib.hid hll
  clear hv hwid hcnt hw hll
  go_enter Tryz.func67, Tryz.ntmps67
  go_wp2_with fail
  refine HV.out.mono ?_
  rintro e w' ⟨rfl, rfl⟩
  go_wp2_with fail
  refine (HCNT.out _).mono ?_
  rintro e w1 ⟨rfl, hb1⟩
  have HB1 := Lib.hid hb1
  clear hb1
  go_wp2_with fail
  refine (HWID.out _).mono ?_
  rintro e w' ⟨rfl, rfl⟩
  have HS := Lib.hid hs
  clear hs
  go_wp2_with fail
  go_loopw [1, 6] (fun x o wr => ∃ (k : Nat) (q : ByteArray), k ≤ 6 ∧ x = .string q ∧ q.data.toList = s.data.toList.drop (3 * k) ∧ q.size = 16 - 3 * k ∧ wr.ownsRow w.heap.size 3 1 o k (((pack3 s.data.toList).take k).map (Value.int .i64)) ∧ Below w.heap.size w wr) (fun x _ _ => strLen x)
  case atStart => exact ⟨0, s, by omega, rfl, by simp, HS.out, World.ownsRow_nil _ _ _ _, HB1.out⟩
  case round =>
    obtain ⟨k, q, hk, rfl, hq, hqs, hown, hbl⟩ := hrel
    have HOWN := Lib.hid hown
    have HBL := Lib.hid hbl
    have HQ := Lib.hid hq
    have hzz := hbl.size
    clear hown hbl hq
    by_cases hlt : k < 6
    · have e1 := str_full (q := q) (by omega)
      obtain ⟨m, hm⟩ : ∃ m, min 3 (16 - 3 * k) = m := ⟨_, rfl⟩
      obtain ⟨r, hr⟩ : ∃ r, q.size = r := ⟨_, rfl⟩
      have hmr : m ≤ r := by omega
      have hmin : min (3 : Int) (r : Int) = (m : Int) := by omega
      have hs16 := HS.out
      have hpl : (q.extract 0 m).data.toList = (s.data.toList.drop (3 * k)).take 3 := by
        rw [ext_take, HQ.out, ← hm, List.take_eq_take_iff]
        simp; omega
      obtain ⟨l, hl⟩ : ∃ l, (s.data.toList.drop (3 * k)).take 3 = l := ⟨_, rfl⟩
      rw [hl] at hpl
      have hlen : l.length = m := by rw [← hl, ← hm]; simp; omega
      have hpk : chunkN l = pk3 s.data.toList k := by unfold pk3; rw [hl]
      obtain ⟨cap, w2, hcv, hcap, hb2, hcell⟩ := conv_part wr (q.extract 0 m) l m hpl hlen
      have hsz2 := hb2.size
      have HCL := Lib.hid hcell
      have HPK := Lib.hid hpk
      have HB2 := Lib.hid (HBL.out.trans (hb2.mono hzz))
      have HLEN := Lib.hid hlen
      have HO2 := Lib.hid (HOWN.out.kept (only_of_below hb2 none) (by cases (u6 : Value).ownBlock <;> simp))
      have HQS := Lib.hid hqs
      have hm3 : m ≤ 3 := by omega
      have hm1 : 1 ≤ m := by omega
      rw [hr] at hqs
      have HM := Lib.hid hm
      clear hcell hpk hpl hb2 hlen hl hqs hs16 hm
      go_wp2_with fail
      go_loopw [11, 65] (fun x t wq => ∃ j : Nat, j ≤ m ∧ t = .int .i64 (j : Int) ∧ x = .int .i64 ((chunkN (l.take j) : Nat) : Int) ∧ w2 = wq) (fun _ t _ => m - (intOf t).toNat)
      case atStart => exact ⟨0, by omega, rfl, rfl, rfl⟩
      case round =>
        obtain ⟨j, hj, rfl, rfl, rfl⟩ := hrel
        by_cases hjm : j < m
        · have qj : (j : Int) < (m : Int) := by omega
          have hjl : j < l.length := by rw [HLEN.out]; exact hjm
          have cj := HCL.out j _ (List.getElem?_eq_getElem hjl)
          have hnx := chunk_take l j hjl
          have hlt2 := chunk_lt _ (l.take j) rfl
          have hlt3 : chunkN (l.take j) < 65536 := by
            have h3 : (l.take j).length ≤ 2 := by rw [List.length_take]; omega
            exact Nat.lt_of_lt_of_le hlt2 (Nat.le_trans (Nat.pow_le_pow_right (by decide) h3) (by decide))
          have hc8 := (l[j]).toNat_lt
          obtain ⟨c, hc⟩ : ∃ c, (l[j]).toNat = c := ⟨_, rfl⟩
          obtain ⟨y, hy⟩ : ∃ y, chunkN (l.take j) = y := ⟨_, rfl⟩
          rw [hc] at cj hnx hc8
          rw [hy] at hnx hlt3 ⊢
          have HNX := Lib.hid hnx
          clear hc hy hnx hlt2
          go_wp2_with fail
          go_roundw
          case measure => simp [intOf]; omega
          case rel => exact ⟨j + 1, by omega, by go_num, by rw [HNX.out]; go_num, by first | rfl | trivial⟩
        · have hjm' : j = m := by omega
          subst hjm'
          have htk : l.take j = l := List.take_of_length_le (by rw [HLEN.out]; exact Nat.le_refl _)
          rw [htk, HPK.out]
          have hst := pack3_part s.data.toList k (by rw [HLL.out]; omega)
          obtain ⟨y, hy⟩ : ∃ y, pk3 s.data.toList k = y := ⟨_, rfl⟩
          rw [hy] at hst ⊢
          have HST := Lib.hid hst
          have HCV := Lib.hid hcv
          have hw2 := HB2.out.size
          clear hst hy htk hcv
          go_wp2_with (at_builtin; refine wpList_append_own _ rfl _ _ 24 rfl w.heap.size 3 i0 (.int .i64 0) 1 8 Tryz.underlying24 hi hz0 hz1 hz2 rfl (by decide) _ _ _ rfl (HO2.out.alloc _) ⟨w2.heap.size, 0, none⟩ 1 1 [.int .i64 (y : Int)] rfl rfl (fun j u hj => by have := cell_one_new w2 (.int .i64 (y : Int)) 3 j u hj; simpa using this) (ints_oneCell .i64 [_]) (by unfold maxLen; omega) (by omega) (by simp; omega) ?_)
          intro v' w5 hown' hgrow _
          have hg := grown_past hgrow
          have hown2 : w5.ownsRow w.heap.size 3 1 v' (k + 1) (((pack3 s.data.toList).take (k + 1)).map (Value.int .i64)) := by rw [HST.out, List.map_append]; simpa using hown'
          have hul : ∀ g, (u6 : Value).ownBlock = some g → w.heap.size ≤ g := fun g hg => (HO2.out.lt g hg).1
          have HO5 := Lib.hid hown2
          have HB5 := Lib.hid (HB2.out.grown hg hw2 hul)
          clear hown' hgrow hg hown2 hul
          go_wp2_with fail
          go_roundw
          case measure =>
            have h1 := HQS.out
            have h2 := HM.out
            have h3 : (q.extract j q.size).size < q.size := by rw [ByteArray.size_extract]; omega
            simpa [strLen, hr] using h3
          case rel =>
            refine ⟨k + 1, q.extract j q.size, by omega, by rw [hr], ?_, ?_, HO5.out, HB5.out⟩
            · rw [extract_list, HQ.out, List.drop_drop]
              have h2 := HM.out
              rcases (show j = 3 ∨ 16 ≤ 3 * k + j by omega) with h | h
              · rw [h]; rfl
              · rw [List.drop_eq_nil_of_le (by rw [HLL.out]; omega), List.drop_eq_nil_of_le (by rw [HLL.out]; omega)]
            · have h1 := HQS.out
              have h2 := HM.out
              rw [ByteArray.size_extract]; omega
    · have hk6 : k = 6 := by omega
      subst hk6
      have e1 := str_empty (q := q) (by omega)
      go_wp2_with fail
      go_ret2
      refine ⟨_, rfl, ?_, HBL.out⟩
      have h := HOWN.out
      rw [List.take_of_length_le (by rw [pack3_len, HLL.out]; decide)] at h
      exact IntsAt.of_own h
end Go.Proofs.YtjfphobfikadlaaGreatDoor
namespace Go.Proofs.YtjfphobfikadlaaGreatDoor
open Go.RowKit Num

/-- What is summed of a share. -/
def markB (h : Int) (xs : List Int) : ByteArray := ⟨(putB h ++ putsB xs).toArray⟩
def markS (h : Int) (xs : List Int) : ByteArray := shaOf (markB h xs)
theorem markS_size (h : Int) (xs : List Int) : (markS h xs).size = 32 := shaOf_size _
def MarkPost (h : Int) (xs : List Int) (w : World) (e : Ending) (w' : World) : Prop := e = .returned (.string (markS h xs)) ∧ Below w.heap.size w w'
theorem putsB_len (xs : List Int) : (putsB xs).length ≤ 11 * xs.length + 11 := by
  unfold putsB; rw [List.length_append]; have := putB_len (xs.length : Int); have := putsL_len xs; omega
set_option maxRecDepth 100000 in
set_option maxHeartbeats 1000000 in
theorem c_Mark (h : Int) (v : Value) (xs : List Int) (S : Nat → Prop) (w : World) (hv : IntsAt w S v xs) (hS : ∀ b, S b → b < w.heap.size) (hl : xs.length ≤ 100000) (hr : I64s xs) (h1 : -9223372036854775808 ≤ h) (h2 : h < 9223372036854775808) :
    Calls Tryz.prog 53 #[.agg #[.int .i64 h, v]] w (MarkPost h xs w) := by
  obtain ⟨A, n, c, rfl, hn, hnc, hcc⟩ := id hv
  have hp := fun (W : World) => c_PutInt ⟨#[]⟩ h W h1 h2 (by decide)
  unfold PutPost at hp
  simp only [bytes_empty] at hp
  have hlen := putB_len h
  have hz : (⟨(putB h).toArray⟩ : ByteArray).size < 4294967296 := by show (putB h).toArray.size < _; rw [List.size_toArray]; omega
  have hq := fun (W : World) (hW : Below w.heap.size w W) => c_PutInts ⟨(putB h).toArray⟩ (.slice A n c) xs S W (hv.keep fun b hb => hW.block b (hS b hb)) (fun b hb => by have := hS b hb; have := hW.size; omega) (by omega) hr hz
  unfold PutsPost at hq
  simp only [bytes_two] at hq
  have hm := putsB_len xs
  have hs := fun (W : World) => d_Sum (markB h xs) W (by show (putB h ++ putsB xs).toArray.size < _; rw [List.size_toArray, List.length_append]; omega)
  unfold markB at hs
  have HP := Lib.hid hp
  have HQ := Lib.hid hq
  have HS := Lib.hid hs
  clear hp hq hs hv hn hcc hr
  have p1 : (w.alloc (.cells #[.int .i64 h, .slice A n c] 49)).cell? ⟨w.heap.size, 0, none⟩ = some (.int .i64 h) := by rw [World.cell?_alloc_new]; rfl
  have p2 : (w.alloc (.cells #[.int .i64 h, .slice A n c] 49)).cell? ⟨w.heap.size, 1, none⟩ = some (.slice A n c) := by rw [World.cell?_alloc_new]; rfl
  have hba := (Below.refl w.heap.size w).alloc (Nat.le_refl _) (.cells #[.int .i64 h, .slice A n c] 49)
  go_enter Tryz.func53, Tryz.ntmps53
  go_wp2_with fail
  generalize w.alloc (.cells #[.int .i64 h, .slice A n c] 49) = w1 at *
  go_region_held3 (fun W => W.cell? ⟨w.heap.size, 0, none⟩ = some (.int .i64 h) ∧ W.cell? ⟨w.heap.size, 1, none⟩ = some (.slice A n c) ∧ Below w.heap.size w W)
    (first
      | exact ⟨p1, p2, hba.drew⟩
      | (go_split_ands
         refine ⟨?_, ?_, ?_⟩
         · (rw [hbk.cell (World.block_lt_of_cell? _ _ ‹_›)]; assumption)
         · (rw [hbk.cell (World.block_lt_of_cell? _ _ ‹_›)]; assumption)
         · exact Below.trans ‹Below w.heap.size w _› (hbk.mono (‹Below w.heap.size w _›).size)))
    (first
      | (go_at_call 103; ((with_reducible refine (HP.out _).mono ?_); rintro e wk ⟨rfl, hbk⟩))
      | (go_at_call 102; ((with_reducible refine (HQ.out _ (by go_split_ands; assumption)).mono ?_); rintro e wk ⟨rfl, hbk⟩))
      | (go_at_call 60; ((with_reducible refine (HS.out _).mono ?_); rintro e wk ⟨rfl, hbk⟩)))
  all_goals
    go_split_ands
    have hbf : Below w.heap.size w wk := by assumption
    go_wp2_with fail
    go_ret
    exact ⟨rfl, hbf⟩
end Go.Proofs.YtjfphobfikadlaaGreatDoor
