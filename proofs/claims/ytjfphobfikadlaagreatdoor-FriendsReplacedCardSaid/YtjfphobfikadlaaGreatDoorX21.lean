/- Appending bytes, one by one, to what '[]byte(s)' gave. The reference's padding. Contracts: the bytes of lists of numbers. -/
import Derived.Test.YtjfphobfikadlaaGreatDoorX20
import Derived.ArgAppend
import Derived.Lib.ConvBytes
import Derived.Test.YtjfphobfikadlaaGreatDoorX04
import Derived.Lib.AppendStr
set_option linter.unusedVariables false
set_option linter.unusedSimpArgs false
namespace Go.Proofs.YtjfphobfikadlaaGreatDoor
open Go.RowKit Num

/-- A slice of one-cell elements in a block of the call's own, whose cells up to the capacity can be written. -/
def OwnB (w : World) (base : Nat) (v : Value) (xs : List Value) : Prop :=
  ∃ g cap, v = .slice (some ⟨g, 0, none⟩) xs.length cap ∧ base ≤ g ∧ g < w.heap.size ∧ xs.length ≤ cap ∧ (∀ j, j < cap → (w.cell? ⟨g, j, none⟩).isSome = true ∧ w.frozen? ⟨g, j, none⟩ = false) ∧ (∀ j u, xs[j]? = some u → w.cell? ⟨g, j, none⟩ = some u)
theorem addr_add (g j : Nat) : (⟨g, 0, none⟩ : Addr).add j = ⟨g, j, none⟩ := by unfold Addr.add; split <;> simp_all
theorem OwnB.of_block {w w' : World} {base : Nat} {v : Value} {xs : List Value} (h : OwnB w base v xs) (hb : ∀ g, g < w.heap.size → w'.heap[g]? = w.heap[g]?) (hs : w.heap.size ≤ w'.heap.size) : OwnB w' base v xs := by
  obtain ⟨g, cap, rfl, h1, h2, h3, h4, h5⟩ := h
  refine ⟨g, cap, rfl, h1, Nat.lt_of_lt_of_le h2 hs, h3, fun j hj => ?_, fun j u hu => ?_⟩
  · rw [World.cell?_of_block (a := ⟨g, j, none⟩) (hb g h2), World.frozen?_of_block (a := ⟨g, j, none⟩) (hb g h2)]; exact h4 j hj
  · rw [World.cell?_of_block (a := ⟨g, j, none⟩) (hb g h2)]; exact h5 j u hu
theorem OwnB.alloc {w : World} {base : Nat} {v : Value} {xs : List Value} (h : OwnB w base v xs) (o : Obj) : OwnB (w.alloc o) base v xs :=
  h.of_block (fun g hg => heap_alloc_old w o hg) (by simp)
theorem OwnB.of_row {w : World} {base : Nat} {e : TypeId} {v : Value} {xs : List Value} (h : w.ownsRow base e 1 v xs.length xs) (h0 : 0 < xs.length) : OwnB w base v xs := by
  rcases h.2 with ⟨_, hz⟩ | ⟨g, cap, cur, rfl, hb, hg, hn, _, hcs, ht⟩
  · omega
  · have hlt : g < w.heap.size := (Array.getElem?_eq_some_iff.1 hg).1
    refine ⟨g, cap, rfl, hb, hlt, hn, fun j hj => ⟨?_, ?_⟩, fun j u hu => ?_⟩
    · simp [World.cell?, hg, hcs, hj]
    · simp [World.frozen?, hg]
    · have := h.cells (g := g) rfl j u hu
      rwa [addr_add] at this
section
variable {P : Program}
theorem run_append_b (w : World) (base : Nat) (t ty e : TypeId) (i : TypeInfo) (z : Value) (ht : P.underlying t = some (.slice e)) (hi : P.info? e = some i) (hz : i.zero = some z)
    (hsize : i.size = 1) (hby : i.bytes = 1) (hzs : z.cells.size = 1) (v : Value) (xs : List Value) (hown : OwnB w base v xs)
    (ad : Addr) (c : Nat) (u : Value) (hu : w.cell? ad = some u) (h1 : u.oneCell' = true) (hlen : xs.length + 1 ≤ 140737488355328) (hbase : base ≤ w.heap.size) :
    ∃ v' w', (Builtin.append_ #[t, t] ty #[v, .slice (some ad) 1 c]).run P w = .ok v' w' ∧ OwnB w' base v' (xs ++ [u]) ∧ Below base w w' := by
  obtain ⟨g, cap, rfl, hb1, hb2, hb3, hb4, hb5⟩ := hown
  have hnews : ∀ j u', [u][j]? = some u' → w.cell? (ad.add j) = some u' := by
    intro j u' hj
    match j, hj with
    | 0, hj => simp at hj; subst hj; simpa [Addr.add] using hu
  by_cases hr : xs.length + 1 ≤ cap
  · have hrun := run_append_room_cells (P := P) w t ty e i ht hi g 0 xs.length cap ad 1 c [u] (by simp [hsize]) hnews (by intro x hx; simp at hx; subst hx; exact h1) hr
      (fun j hj => by simp at hj; subst hj; simp [hsize]; exact (hb4 _ (by omega)).1) (fun j hj => by simp at hj; subst hj; simp [hsize]; exact (hb4 _ (by omega)).2)
    have hsc : w.setCells g (0 + xs.length * i.size) [u] = w.setCell ⟨g, xs.length, none⟩ u := by simp [World.setCells, hsize]
    rw [hsc] at hrun
    obtain ⟨old, hold⟩ := Option.isSome_iff_exists.1 (hb4 xs.length (by omega)).1
    refine ⟨_, _, hrun, ⟨g, cap, by simp, hb1, by simp [World.setCell]; exact hb2, by simpa using hr, fun j hj => ⟨?_, ?_⟩, fun j x hx => ?_⟩, (Below.refl _ _).setCell (p := ⟨g, xs.length, none⟩) hb1 _⟩
    · by_cases hje : j = xs.length
      · subst hje; rw [World.cell?_setCell_same _ _ _ hold]; rfl
      · rw [World.cell?_setCell_other _ _ _ _ (by intro e; injection e with e1 e2; exact hje e2.symm)]; exact (hb4 j hj).1
    · rw [World.frozen?_setCell]; exact (hb4 j hj).2
    · by_cases hje : j = xs.length
      · subst hje; rw [World.cell?_setCell_same _ _ _ hold]; simpa using hx
      · rw [World.cell?_setCell_other _ _ _ _ (by intro e; injection e with e1 e2; exact hje e2.symm)]
        refine hb5 j x ?_
        have hj2 : j < (xs ++ [u]).length := (List.getElem?_eq_some_iff.1 hx).1
        rw [List.length_append, List.length_singleton] at hj2
        rwa [List.getElem?_append_left (by omega)] at hx
  · obtain ⟨v', w', hrun, ho, hg⟩ := run_append_arg_grows (P := P) w t ty e i z 1 1 ht hi hz hsize hby hzs (by omega) ⟨g, 0, none⟩ xs.length cap xs (by simp) (fun j x hx => by rw [addr_add]; exact hb5 j x hx) ad 1 c [u] (by simp) hnews (by omega) (by simp only [maxLen]; omega) (by omega)
    refine ⟨v', w', hrun, OwnB.of_row (e := e) ?_ (by simp), ?_⟩
    · have : w'.ownsRow base e 1 v' (xs.length + 1) (xs ++ [u]) := by
        refine ⟨ho.1, ?_⟩
        rcases ho.2 with hn | ⟨g', cap', cur, a1, a2, a3⟩
        · exact .inl hn
        · exact .inr ⟨g', cap', cur, a1, Nat.le_trans hbase a2, a3⟩
      simpa using this
    · exact (Below.refl _ _).grown hg hbase (fun r hr => by cases hr)
theorem wpList_append_b {w : World} {ops : Array Oper} {rest : List Oper} {o : Oper} {a : Act} {Q : Exit → Act → World → Prop} (hgd : o.guard = none) (s x : Operand) (t : TypeId)
    (ho : o.op = .call { callee := .builtin .append, args := #[s, x], argTypes := #[t, t] })
    (base : Nat) (e : TypeId) (i : TypeInfo) (z : Value) (ht : P.underlying t = some (.slice e)) (hi : P.info? e = some i) (hz : i.zero = some z)
    (hsize : i.size = 1) (hby : i.bytes = 1) (hzs : z.cells.size = 1) (v : Value) (xs : List Value) (hs : a.eval s = v) (hown : OwnB w base v xs)
    (ad : Addr) (c : Nat) (u : Value) (hx : a.eval x = .slice (some ad) 1 c) (hu : w.cell? ad = some u) (h1 : u.oneCell' = true) (hlen : xs.length + 1 ≤ 140737488355328) (hbase : base ≤ w.heap.size)
    (h : ∀ v' w', OwnB w' base v' (xs ++ [u]) → Below base w w' → wpList P ops Q rest (a.put o.dst v') w') : wpList P ops Q (o :: rest) a w := by
  refine wpList_plain hgd fun K hK => ?_
  obtain ⟨v', w', hr, h2, h3⟩ := run_append_b (P := P) w base t o.type e i z ht hi hz hsize hby hzs v xs hown ad c u hu h1 hlen hbase
  unfold Oper.wp execOp
  simp only [ho, resolve, invoke, builtin, Sem.run_bind, Sem.run_pure, Result.andThen_ok, List.map_toArray, List.map_cons, List.map_nil, hs, hx, hr]
  exact hK _ _ (h v' w' h2 h3)
end
theorem ownB_bytes (W : World) (s : ByteArray) (e : TypeId) : OwnB (Lib.bytesWorld W e s) W.heap.size (.slice (some ⟨W.heap.size, 0, none⟩) s.size (grownCap W s.size 0 e)) (Lib.byteCells s.data.toList) := by
  have hn := Lib.bytesWorld_at_new W e s
  have hge := grownCap_ge W s.size 0 e
  have hsz : (Lib.bytesCells W e s).size = grownCap W s.size 0 e := by
    have : s.data.size = s.size := rfl
    simp [Lib.bytesCells]; omega
  have hl : (Lib.byteCells s.data.toList).length = s.size := by simp [Lib.byteCells]
  refine ⟨W.heap.size, _, by rw [hl], Nat.le_refl _, by rw [Lib.bytesWorld_size]; omega, by rw [hl]; exact hge, fun j hj => ⟨?_, ?_⟩, fun j u hu => ?_⟩
  · simp [World.cell?, hn, hsz, hj]
  · simp [World.frozen?, hn]; omega
  · have hj : j < s.size := by rw [← hl]; exact (List.getElem?_eq_some_iff.1 hu).1
    rw [Lib.bytesWorld_cell W e s j hj]
    have hj2 : j < s.data.toList.length := by simpa using hj
    simp only [Lib.byteCells, List.getElem?_map, List.getElem?_eq_getElem hj2, Option.map_some] at hu
    rw [List.getD_eq_getElem?_getD, List.getElem?_eq_getElem hj2]
    exact hu
theorem below_bytes (W : World) (s : ByteArray) (e : TypeId) : Below W.heap.size W (Lib.bytesWorld W e s) :=
  ⟨rfl, rfl, rfl, by rw [Lib.bytesWorld_size]; omega, fun i hi => Lib.bytesWorld_at_old W e s i hi⟩
end Go.Proofs.YtjfphobfikadlaaGreatDoor
namespace Go.Proofs.YtjfphobfikadlaaGreatDoor
open Go.RowKit Num

theorem repeatL_rep (n : Nat) : Lib.repeatL [0] n = List.replicate n (0 : UInt8) := by
  induction n with
  | zero => rfl
  | succ k ih => simp [Lib.repeatL, ih, List.replicate_succ]
/-- What was laid so far. -/
def padK (s : List UInt8) (k : Nat) : List UInt8 := s ++ [128] ++ List.replicate k 0
theorem padK_len (s : List UInt8) (k : Nat) : (padK s k).length = s.length + 1 + k := by simp [padK]; omega
theorem padK_next (s : List UInt8) (k : Nat) : padK s (k + 1) = padK s k ++ [0] := by simp [padK, List.replicate_succ']
theorem cells_len (l : List UInt8) : (Lib.byteCells l).length = l.length := by simp [Lib.byteCells]
theorem OwnB.form {w : World} {base : Nat} {v : Value} {xs : List Value} {m : Nat} (h : OwnB w base v xs) (hm : xs.length = m) : ∃ g cap, v = .slice (some ⟨g, 0, none⟩) m cap := by
  obtain ⟨g, cap, rfl, _⟩ := h
  exact ⟨g, cap, by rw [hm]⟩
theorem cells_snoc (l : List UInt8) (c : Nat) (h : c < 256) : Lib.byteCells (l ++ [UInt8.ofNat c]) = Lib.byteCells l ++ [.int .u8 (c : Int)] := byteCells_snoc1 l c h

set_option maxRecDepth 100000 in
theorem own_string (w : World) (base g m cap : Nat) (l : List UInt8) (h : OwnB w base (.slice (some ⟨g, 0, none⟩) m cap) (Lib.byteCells l)) (hm : l.length = m) :
    (convert 91 9 (.slice (some ⟨g, 0, none⟩) m cap)).run Tryz.prog w = .ok (.string ⟨l.toArray⟩) w := by
  subst hm
  obtain ⟨g', cap', e, h1, h2, h3, h4, h5⟩ := h
  injection e with e1 e2 e3
  injection e1 with e1
  injection e1 with e1
  subst e1 e3
  have hcv := run_convert_bytes_arg (P := Tryz.prog) w 91 5 Tryz.underlying91 Tryz.underlying5 g 0 l.length cap (l.map fun c => (c.toNat : Int)) (by simp) (fun i hi => by
    rw [Nat.zero_add, h5 i _ (by unfold Lib.byteCells; rw [List.getElem?_map, List.getElem?_eq_getElem hi]; rfl), List.getD_eq_getElem?_getD, List.getElem?_map, List.getElem?_eq_getElem hi]; rfl) 9 Tryz.underlying9
  have hst : strOfNums (l.map fun c => (c.toNat : Int)) = ⟨l.toArray⟩ := by
    unfold strOfNums
    congr 2
    rw [List.map_map]
    conv => rhs; rw [← List.map_id l]
    congr 1
    funext c
    simp
  rwa [hst] at hcv
theorem zerosN_lt (n : Nat) : zerosN n < 64 := Nat.mod_lt _ (by decide)
theorem padS_eq (s : ByteArray) (hl : s.data.toList.length = s.size) : padS s = ⟨(padK s.data.toList (zerosN s.size) ++ lenB s.size 8).toArray⟩ := by
  unfold padS padL padK
  rw [repeatL_rep, hl]

set_option maxRecDepth 100000 in
set_option maxHeartbeats 1000000 in
theorem rf_pad (s : ByteArray) (w : World) (hs : s.size < 4294967296) :
    Calls Tryz.prog 63 #[.string s] w fun e w' => e = .returned (.string (padS s)) ∧ Below w.heap.size w w' := by
  obtain ⟨i0, hi, hz0, hz1, hz2⟩ := info_parts infoB
  have hbw := below_bytes w s 5
  have hob := ownB_bytes w s 5
  have hcv := fun (W : World) => Lib.run_convert_string_bytes (P := Tryz.prog) W 9 91 5 s Tryz.underlying9 Tryz.underlying91 Tryz.underlying5
  have hbs := Lib.bytesWorld_size w 5 s
  have hl0 : s.data.toList.length = s.size := by simp
  have HL := Lib.hid hl0
  clear hl0
  go_enter Tryz.func63, Tryz.ntmps63
  go_wp2_with (at_builtin; refine wpList_append_b rfl _ _ 91 rfl w.heap.size 5 i0 (.int .u8 0) Tryz.underlying91 hi hz0 hz1 hz2 rfl _ _ rfl (hob.alloc _) ⟨w.heap.size + 1, 0, none⟩ 1 (.int .u8 128) rfl ?c1 rfl ?c2 ?c3 ?_)
  case c1 => rw [← hbs]; simp
  case c2 => rw [cells_len, HL.out]; omega
  case c3 => simp; omega
  intro v' w2 hown' hb2
  have hbl : Below w.heap.size w w2 := (hbw.alloc (by omega) _).trans hb2
  have hown0 : OwnB w2 w.heap.size v' (Lib.byteCells (padK s.data.toList 0)) := by
    have := cells_snoc s.data.toList 128 (by omega)
    unfold padK
    rw [List.replicate_zero, List.append_nil]
    rw [show (128 : UInt8) = UInt8.ofNat 128 from rfl, this]
    exact hown'
  have HO := Lib.hid hown0
  have HB := Lib.hid hbl
  clear hown' hb2 hbl hown0 hob hbw hbs hcv
  go_wp2_with fail
  go_loopw [3] (fun v wr => ∃ k : Nat, k ≤ zerosN s.size ∧ OwnB wr w.heap.size v (Lib.byteCells (padK s.data.toList k)) ∧ Below w.heap.size w wr) (fun v _ => 64 + s.size - (match v with | .slice _ n _ => n | _ => 0))
  case atStart => exact ⟨0, Nat.zero_le _, HO.out, HB.out⟩
  case round =>
    clear HO HB
    obtain ⟨k, hk, hown, hbl⟩ := hrel
    obtain ⟨g, cap, rfl⟩ := hown.form (m := s.size + 1 + k) (by rw [cells_len, padK_len, HL.out])
    have hz : zerosN s.size = (119 - s.size % 64) % 64 := rfl
    have HO := Lib.hid hown
    have HB := Lib.hid hbl
    have hsz := hbl.size
    clear hbl
    by_cases hl : k < zerosN s.size
    · have ht : ((s.size + 1 + k : Nat) : Int) % 64 ≠ 56 := by omega
      go_wp2_with (at_builtin; refine wpList_append_b rfl _ _ 91 rfl w.heap.size 5 i0 (.int .u8 0) Tryz.underlying91 hi hz0 hz1 hz2 rfl _ _ rfl (hown.alloc _) ⟨wr.heap.size, 0, none⟩ 1 (.int .u8 0) rfl ?c1 rfl ?c2 ?c3 ?_)
      case c1 => simp
      case c2 => rw [cells_len, padK_len, HL.out]; omega
      case c3 => simp; omega
      intro v1 w3 hown3 hb3
      have HO3 : Hid (OwnB w3 w.heap.size v1 (Lib.byteCells (padK s.data.toList (k + 1)))) := Lib.hid (by
        rw [padK_next, show (0 : UInt8) = UInt8.ofNat 0 from rfl, cells_snoc _ 0 (by omega)]; exact hown3)
      have HB3 := Lib.hid ((HB.out.alloc (by omega) _).trans hb3)
      obtain ⟨g1, cap1, rfl⟩ := HO3.out.form (m := s.size + 1 + (k + 1)) (by rw [cells_len, padK_len, HL.out])
      clear hown3 hb3 hown HO HB
      go_wp2_with fail
      go_roundw
      case measure => dsimp only; omega
      case rel => exact ⟨k + 1, by omega, HO3.out, HB3.out⟩
    · have hkz : k = zerosN s.size := by omega
      have ht : ((s.size + 1 + k : Nat) : Int) % 64 = 56 := by omega
      subst hkz
      clear hown hz
      generalize hZ : zerosN s.size = z at *
      have HZ := Lib.hid hZ
      clear hZ
      have e8 : ∀ j : Nat, j < 8 → IntKind.u64.wrap (56 - 8 * (j : Int)) = 56 - 8 * (j : Int) := fun j hj => by show (56 - 8 * (j : Int)) % 18446744073709551616 = _; omega
      have hl8 : IntKind.u64.wrap ((s.size : Int) * 8) = (s.size : Int) * 8 := by show ((s.size : Int) * 8) % 18446744073709551616 = _; omega
      have hqt : (((s.size : Int) + 1 + (z : Int)) % 64 != 56) = false := by
        have : ((s.size : Int) + 1 + (z : Int)) % 64 = 56 := by omega
        rw [this]; rfl
      clear ht
      go_wp2_with fail
      obtain ⟨wA, hwA⟩ : ∃ wA, wA = wr := ⟨wr, rfl⟩
      subst hwA
      go_loopw [3, 4] (fun v i wr => ∃ j : Nat, j ≤ 8 ∧ i = .int .i64 (56 - 8 * (j : Int)) ∧ OwnB wr w.heap.size v (Lib.byteCells (padK s.data.toList z ++ lenB s.size j)) ∧ Below w.heap.size w wr) (fun _ i _ => (intOf i + 8).toNat)
      case atStart => exact ⟨0, by omega, rfl, by simpa [lenB] using HO.out, HB.out⟩
      case round =>
        clear HO HB
        obtain ⟨j, hj, rfl, hown, hbl⟩ := hrel
        obtain ⟨g1, cap1, rfl⟩ := hown.form (m := s.size + 1 + z + j) (by rw [cells_len, List.length_append, padK_len, HL.out, lenB_len])
        have HO := Lib.hid hown
        have HB := Lib.hid hbl
        have hsz := hbl.size
        clear hbl
        by_cases hj8 : j < 8
        · have e8j := e8 j hj8
          have hge : (0 : Int) ≤ 56 - 8 * (j : Int) := by omega
          have h64 : 56 - 8 * (j : Int) < 64 := by omega
          clear e8
          go_wp2_with (at_builtin; refine wpList_append_b rfl _ _ 91 rfl w.heap.size 5 i0 (.int .u8 0) Tryz.underlying91 hi hz0 hz1 hz2 rfl _ _ rfl (hown.alloc _) ⟨wr.heap.size, 0, none⟩ 1 (.int .u8 ((s.size : Int) * 8 / 2 ^ (56 - 8 * j) % 256)) rfl ?c1 rfl ?c2 ?c3 ?_)
          case c1 => simp
          case c2 => rw [cells_len, List.length_append, padK_len, HL.out, lenB_len]; have := zerosN_lt s.size; rw [HZ.out] at this; omega
          case c3 => simp; omega
          intro v1 w3 hown3 hb3
          have HO3 : Hid (OwnB w3 w.heap.size v1 (Lib.byteCells (padK s.data.toList z ++ lenB s.size (j + 1)))) := Lib.hid (by
            rw [show lenB s.size (j + 1) = lenB s.size j ++ [UInt8.ofNat (s.size * 8 / 2 ^ (8 * (7 - j)) % 256)] from rfl, ← List.append_assoc, cells_snoc _ _ (Nat.mod_lt _ (by decide)), show 8 * (7 - j) = 56 - 8 * j by omega]
            have e : ((s.size * 8 / 2 ^ (56 - 8 * j) % 256 : Nat) : Int) = (s.size : Int) * 8 / 2 ^ (56 - 8 * j) % 256 := by
              simp only [Int.natCast_emod, Int.natCast_ediv, Int.natCast_mul, Int.natCast_pow]; rfl
            rw [e]; exact hown3)
          have HB3 := Lib.hid ((HB.out.alloc (by omega) _).trans hb3)
          clear hown3 hb3 hown HO HB e8j
          go_wp2_with fail
          go_roundw
          case measure => simp [intOf]; omega
          case rel => exact ⟨j + 1, by omega, by go_num, HO3.out, HB3.out⟩
        · have hj2 : j = 8 := by omega
          subst hj2
          clear e8
          have hcv := own_string wr _ _ _ _ _ hown (by rw [List.length_append, padK_len, HL.out, lenB_len])
          clear hown
          go_wp2_with fail
          go_ret
          refine ⟨?_, HB.out⟩
          rw [padS_eq s HL.out, HZ.out]
          rfl
end Go.Proofs.YtjfphobfikadlaaGreatDoor
namespace Go.Proofs.YtjfphobfikadlaaGreatDoor
open Go.RowKit Num

theorem OwnB.below {w w' : World} {base : Nat} {v : Value} {xs : List Value} (h : OwnB w base v xs) (hb : Below w.heap.size w w') : OwnB w' base v xs :=
  h.of_block (fun g hg => hb.block g hg) hb.size
section
variable {P : Program}
theorem run_append_bs (w : World) (base : Nat) (t u ty e : TypeId) (i : TypeInfo) (ht : P.underlying t = some (.slice e)) (hu : P.underlying u = some .string) (hi : P.info? e = some i) (hz : i.zero = some (.int .u8 0))
    (hsize : i.size = 1) (hby : i.bytes = 1) (v : Value) (xs : List Value) (hown : OwnB w base v xs)
    (s : ByteArray) (hlen : xs.length + s.size ≤ 140737488355328) (hbase : base ≤ w.heap.size) :
    ∃ v' w', (Builtin.append_ #[t, u] ty #[v, .string s]).run P w = .ok v' w' ∧ OwnB w' base v' (xs ++ Lib.strCells s) ∧ Below base w w' := by
  obtain ⟨g, cap, rfl, hb1, hb2, hb3, hb4, hb5⟩ := hown
  have hsl := Lib.strCells_length s
  by_cases hr : xs.length + s.size ≤ cap
  · have hf := Lib.run_firstCells_string (P := P) w 1 s
    have hst := run_storeCells_cells (P := P) g xs.length (Lib.strCells s) 0 w (by intro j hj; simpa using (hb4 (xs.length + j) (by omega)).1) (by intro j hj; simpa using (hb4 (xs.length + j) (by omega)).2) (Lib.strCells_oneCell s)
    simp only [Nat.add_zero] at hst
    have hrun : (Builtin.append_ #[t, u] ty #[.slice (some ⟨g, 0, none⟩) xs.length cap, .string s]).run P w = .ok (.slice (some ⟨g, 0, none⟩) (xs.length + s.size) cap) (w.setCells g xs.length (Lib.strCells s)) := by
      simp [Builtin.append_, run_underlying ht, run_underlying hu, sizeOf, typeInfo, hi, hsize, Builtin.lenOf, hr, hf, Addr.add_lit, hst]
    have hin := World.cell?_setCells_in g (Lib.strCells s) xs.length w (fun j hj => (hb4 _ (by omega)).1)
    have hout := fun (x : Addr) hx => World.cell?_setCells_out g (Lib.strCells s) xs.length w x hx
    have hfz := fun (x : Addr) => World.frozen?_setCells g (Lib.strCells s) xs.length w x
    have hsz : (w.setCells g xs.length (Lib.strCells s)).heap.size = w.heap.size := by
      have : ∀ (vs : List Value) (o : Nat) (w : World), (w.setCells g o vs).heap.size = w.heap.size := by
        intro vs
        induction vs with
        | nil => intro o w; rfl
        | cons a l ih => intro o w; show ((w.setCell ⟨g, o, none⟩ a).setCells g (o + 1) l).heap.size = _; rw [ih]; simp [World.setCell]
      exact this _ _ _
    have hbel : Below base w (w.setCells g xs.length (Lib.strCells s)) := by
      have : ∀ (vs : List Value) (o : Nat) (w : World), Below base w (w.setCells g o vs) := by
        intro vs
        induction vs with
        | nil => intro o w; exact Below.refl _ _
        | cons a l ih => intro o w; exact ((Below.refl base w).setCell (p := ⟨g, o, none⟩) hb1 a).trans (ih (o + 1) _)
      exact this _ _ _
    refine ⟨_, _, hrun, ⟨g, cap, by rw [List.length_append, hsl], hb1, by rw [hsz]; exact hb2, by rw [List.length_append, hsl]; exact hr, fun j hj => ⟨?_, by rw [hfz]; exact (hb4 j hj).2⟩, fun j x hx => ?_⟩, hbel⟩
    · by_cases hin1 : xs.length ≤ j ∧ j < xs.length + s.size
      · have := hin (j - xs.length) (by omega)
        rw [show xs.length + (j - xs.length) = j by omega] at this
        rw [this]; rfl
      · rw [hout ⟨g, j, none⟩ (fun _ _ => by show j < xs.length ∨ _ ≤ j; omega)]
        exact (hb4 j hj).1
    · by_cases hj : j < xs.length
      · rw [hout ⟨g, j, none⟩ (fun _ _ => .inl hj)]
        refine hb5 j x ?_
        rwa [List.getElem?_append_left hj] at hx
      · rw [List.getElem?_append_right (by omega)] at hx
        obtain ⟨hj2, hx2⟩ := List.getElem?_eq_some_iff.1 hx
        have := hin (j - xs.length) hj2
        rw [show xs.length + (j - xs.length) = j by omega] at this
        rw [this, hx2]
  · have hrun := Lib.run_append_grow_string (P := P) w t u ty e i (.int .u8 0) ht hu hi hz ⟨g, 0, none⟩ xs.length cap xs (by rw [hsize]; simp) (fun j x hx => by rw [addr_add]; exact hb5 j x hx) s (by omega) (by omega) (by rw [hby]; exact growslice_fits (by omega) (by omega))
    have hge := grownCap_ge w (xs.length + s.size) cap e
    refine ⟨_, _, hrun, OwnB.of_row (e := e) ?_ (by rw [List.length_append, hsl]; omega), ?_⟩
    · rw [List.length_append, hsl]
      refine ⟨by rw [List.length_append, hsl, Nat.mul_one], .inr ⟨w.heap.size, _, _, rfl, hbase, heap_alloc_new w.drew _, hge, ?_, ?_, ?_⟩⟩
      · exact grownCap_le_maxLen w (xs.length + s.size) cap e (by simp only [maxLen]; omega)
      · have hz1 : (Value.int IntKind.u8 0).cells.size = 1 := rfl
        simp only [Array.size_append, List.size_toArray, size_zeroCells, hz1, hsl]
        omega
      · have el : (xs ++ Lib.strCells s).length = xs.length + s.size := by rw [List.length_append, hsl]
        simp only [Array.toList_append, List.append_assoc]
        rw [← List.append_assoc, Nat.mul_one, ← el]
        exact List.take_left
    · exact (Below.refl _ _).drew.alloc (by simpa using hbase) _
theorem wpList_append_bs {w : World} {ops : Array Oper} {rest : List Oper} {o : Oper} {a : Act} {Q : Exit → Act → World → Prop} (hgd : o.guard = none) (sl x : Operand) (t u : TypeId)
    (ho : o.op = .call { callee := .builtin .append, args := #[sl, x], argTypes := #[t, u] })
    (base : Nat) (e : TypeId) (i : TypeInfo) (ht : P.underlying t = some (.slice e)) (hu : P.underlying u = some .string) (hi : P.info? e = some i) (hz : i.zero = some (.int .u8 0))
    (hsize : i.size = 1) (hby : i.bytes = 1) (v : Value) (xs : List Value) (hs : a.eval sl = v) (hown : OwnB w base v xs)
    (s : ByteArray) (hx : a.eval x = .string s) (hlen : xs.length + s.size ≤ 140737488355328) (hbase : base ≤ w.heap.size)
    (h : ∀ v' w', OwnB w' base v' (xs ++ Lib.strCells s) → Below base w w' → wpList P ops Q rest (a.put o.dst v') w') : wpList P ops Q (o :: rest) a w := by
  refine wpList_plain hgd fun K hK => ?_
  obtain ⟨v', w', hr, h2, h3⟩ := run_append_bs (P := P) w base t u o.type e i ht hu hi hz hsize hby v xs hown s hlen hbase
  unfold Oper.wp execOp
  simp only [ho, resolve, invoke, builtin, Sem.run_bind, Sem.run_pure, Result.andThen_ok, List.map_toArray, List.map_cons, List.map_nil, hs, hx, hr]
  exact hK _ _ (h v' w' h2 h3)
end
/-- The bytes of a list of numbers. -/
def putsL (xs : List Int) : List UInt8 := xs.flatMap putB
def putsB (xs : List Int) : List UInt8 := putB xs.length ++ putsL xs
theorem putsL_len (xs : List Int) : (putsL xs).length ≤ 11 * xs.length := by
  unfold putsL
  induction xs with
  | nil => simp
  | cons a l ih => rw [List.flatMap_cons, List.length_append, List.length_cons]; have := putB_len a; omega
theorem putsL_take (xs : List Int) (k : Nat) (h : k < xs.length) : putsL (xs.take (k + 1)) = putsL (xs.take k) ++ putB (xs.getD k 0) := by
  unfold putsL
  rw [List.take_succ_eq_append_getElem h, List.flatMap_append, List.flatMap_cons, List.flatMap_nil, List.append_nil, List.getD_eq_getElem?_getD, List.getElem?_eq_getElem h]
  rfl
theorem bytes_empty (b : ByteArray) : (⟨#[]⟩ : ByteArray) ++ b = b := by
  apply ByteArray.ext
  simp
theorem bytes_two (l m : List UInt8) : (⟨l.toArray⟩ : ByteArray) ++ ⟨m.toArray⟩ = ⟨(l ++ m).toArray⟩ := by
  apply ByteArray.ext
  simp
theorem strCells_list (l : List UInt8) : Lib.strCells ⟨l.toArray⟩ = Lib.byteCells l := rfl
theorem byteCells_app (l m : List UInt8) : Lib.byteCells (l ++ m) = Lib.byteCells l ++ Lib.byteCells m := by simp [Lib.byteCells]
/-- Numbers of the machine. -/
def I64s (xs : List Int) : Prop := ∀ k, k < xs.length → -9223372036854775808 ≤ xs.getD k 0 ∧ xs.getD k 0 < 9223372036854775808
def PutsPost (b : ByteArray) (xs : List Int) (w : World) (e : Ending) (w' : World) : Prop := e = .returned (.string (b ++ ⟨(putsB xs).toArray⟩)) ∧ Below w.heap.size w w'

set_option maxRecDepth 100000 in
set_option maxHeartbeats 1000000 in
theorem c_putList (b : ByteArray) (v : Value) (xs : List Int) (S : Nat → Prop) (w : World) (hv : IntsAt w S v xs) (hS : ∀ b, S b → b < w.heap.size) (hl : xs.length ≤ 1000000) (hr : I64s xs) (hb : b.size < 4294967296) :
    Calls Tryz.prog 147 #[.string b, v, .func (.func 103) #[] #[]] w (PutsPost b xs w) := by
  obtain ⟨A, n, c, rfl, hn, hnc, hcc⟩ := hv
  obtain ⟨i0, hi, hz0, hz1, hz2⟩ := info_parts infoB
  have hp0 := fun (n : Int) (W : World) h1 h2 => c_PutInt ⟨#[]⟩ n W h1 h2 (by decide)
  unfold PutPost at hp0
  simp only [bytes_empty] at hp0
  have hcv := fun (W : World) (s : ByteArray) => Lib.run_convert_string_bytes (P := Tryz.prog) W 9 91 5 s Tryz.underlying9 Tryz.underlying91 Tryz.underlying5
  obtain ⟨len, hlen⟩ : ∃ l : List UInt8, putB (n : Int) = l := ⟨_, rfl⟩
  have hll : len.length ≤ 11 := by rw [← hlen]; exact putB_len _
  have hpb : putsB xs = len ++ putsL xs := by unfold putsB; rw [← hn, hlen]
  have HP0 := Lib.hid hp0
  have HCV := Lib.hid hcv
  have HN := Lib.hid hn
  have HCC := Lib.hid hcc
  have HR := Lib.hid hr
  have HLEN := Lib.hid hlen
  have HPB := Lib.hid hpb
  have hn6 : n ≤ 1000000 := by omega
  clear hn hcc hr hp0 hcv hlen hpb hl
  have hw0 : w.heap.size ≤ w.heap.size := Nat.le_refl _
  go_enter Tryz.func147, Tryz.ntmps147
  go_wp2_with fail
  refine (HP0.out (n : Int) _ (by omega) (by omega)).mono ?_
  rintro e w1 ⟨rfl, hb1⟩
  rw [HLEN.out]
  have hob := ownB_bytes w1 ⟨len.toArray⟩ 5
  have hbw := below_bytes w1 ⟨len.toArray⟩ 5
  have hcv1 := HCV.out w1 ⟨len.toArray⟩
  have hbl : Below w.heap.size w (Lib.bytesWorld w1 5 ⟨len.toArray⟩) := hb1.trans (hbw.mono hb1.size)
  have hs1 := hb1.size
  have hob1 : OwnB (Lib.bytesWorld w1 5 ⟨len.toArray⟩) w.heap.size (.slice (some ⟨w1.heap.size, 0, none⟩) (⟨len.toArray⟩ : ByteArray).size (grownCap w1 (⟨len.toArray⟩ : ByteArray).size 0 5)) (Lib.byteCells len) := by
    obtain ⟨g, cap, h1, h2, h3⟩ := hob
    exact ⟨g, cap, h1, by omega, h3⟩
  rw [show (⟨len.toArray⟩ : ByteArray).size = len.length from by show len.toArray.size = _; simp] at hob1
  have HOB := Lib.hid hob1
  have HBL := Lib.hid hbl
  clear hob hbw hbl hob1 hb1
  go_wp2_with fail
  clear hcv1
  generalize Lib.bytesWorld w1 5 ⟨len.toArray⟩ = w2 at *
  go_loopw [8, 18] (fun v t wr => ∃ k : Nat, k ≤ n ∧ t = .int .i64 (k : Int) ∧ OwnB wr w.heap.size v (Lib.byteCells (len ++ putsL (xs.take k))) ∧ Below w.heap.size w wr) (fun _ t _ => n - (intOf t).toNat)
  case atStart => exact ⟨0, by omega, rfl, by simpa [putsL] using HOB.out, HBL.out⟩
  case round =>
    clear HOB HBL
    obtain ⟨k, hk, rfl, hown, hbl⟩ := hrel
    have hpl := putsL_len (xs.take k)
    have hml : (len ++ putsL (xs.take k)).length ≤ 12000000 := by
      rw [List.length_append]
      have : (xs.take k).length ≤ k := by rw [List.length_take]; omega
      omega
    obtain ⟨m, hm⟩ : ∃ m, (len ++ putsL (xs.take k)).length = m := ⟨_, rfl⟩
    obtain ⟨g, cap, rfl⟩ := hown.form (m := m) (by rw [cells_len, hm])
    rw [hm] at hml
    have HM := Lib.hid hm
    have HO := Lib.hid hown
    have HB := Lib.hid hbl
    clear hown hbl hm hpl
    by_cases hlt : k < n
    · obtain ⟨b0, off, rfl, hlt0, hcell⟩ := HCC.out (by omega)
      have cx := (HB.out.cell (p := ⟨b0, off + k, none⟩) (hS _ hlt0)).trans (hcell k hlt)
      have bx := HR.out k (by have := HN.out; omega)
      have hnext := putsL_take xs k (by have := HN.out; omega)
      obtain ⟨x, hx⟩ : ∃ x, xs.getD k 0 = x := ⟨_, rfl⟩
      rw [hx] at cx bx hnext
      have hxl := putB_len x
      have hz : (⟨(putB x).toArray⟩ : ByteArray).size ≤ 11 := by show (putB x).toArray.size ≤ 11; simpa using hxl
      have HNX := Lib.hid hnext
      have HZ := Lib.hid hz
      have qk : (k : Int) < (n : Int) := by omega
      have qk0 : (0 : Int) ≤ (k : Int) := by omega
      clear hx hcell hnext hxl hz
      go_wp2_with fail
      refine (HP0.out x _ bx.1 bx.2).mono ?_
      rintro e w3 ⟨rfl, hb3⟩
      have hown3 := HO.out.below hb3
      have HB3 := Lib.hid (HB.out.trans (hb3.mono HB.out.size))
      clear hb3 HO
      go_wp2_with (at_builtin; refine wpList_append_bs rfl _ _ 91 9 rfl w.heap.size 5 i0 Tryz.underlying91 Tryz.underlying9 hi hz0 hz1 hz2 _ _ rfl hown3 ⟨(putB x).toArray⟩ rfl ?c2 ?c3 ?_)
      case c2 => rw [cells_len, HM.out]; have := HZ.out; omega
      case c3 => exact HB3.out.size
      intro v4 w4 hown4 hb4
      rw [strCells_list, ← byteCells_app, List.append_assoc, ← HNX.out] at hown4
      have HO4 := Lib.hid hown4
      have HB4 := Lib.hid (HB3.out.trans hb4)
      clear hown3 hown4 hb4 HB3 HB
      go_wp2_with fail
      go_roundw
      case measure => simp [intOf]; omega
      case rel => exact ⟨k + 1, by omega, by go_num, HO4.out, HB4.out⟩
    · have hkn : k = n := by omega
      subst hkn
      have htk : xs.take k = xs := by rw [List.take_of_length_le (by have := HN.out; omega)]
      rw [htk] at HO HM
      have hcv := own_string wr _ _ _ _ _ HO.out HM.out
      have hsz : (⟨(len ++ putsL xs).toArray⟩ : ByteArray).size ≤ 12000000 := by show (len ++ putsL xs).toArray.size ≤ _; rw [List.size_toArray, HM.out]; exact hml
      clear HM htk
      go_wp2_with fail
      go_ret
      exact ⟨by rw [HPB.out]; rfl, HB.out⟩
theorem c_PutInts (b : ByteArray) (v : Value) (xs : List Int) (S : Nat → Prop) (w : World) (hv : IntsAt w S v xs) (hS : ∀ b, S b → b < w.heap.size) (hl : xs.length ≤ 1000000) (hr : I64s xs) (hb : b.size < 4294967296) :
    Calls Tryz.prog 102 #[.string b, v] w (PutsPost b xs w) := by
  have h := c_putList b v xs S w hv hS hl hr hb
  have H := Lib.hid h
  clear h hv hr
  go_enter Tryz.func102, Tryz.ntmps102
  go_wp2_with fail
  refine H.out.mono ?_
  rintro e w1 ⟨rfl, hb1⟩
  go_wp2_with fail
  go_ret
  exact ⟨rfl, hb1⟩
end Go.Proofs.YtjfphobfikadlaaGreatDoor
