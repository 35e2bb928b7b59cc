/- Contracts: a certain word is taken; a number is taken. -/
import Derived.Test.YthfmmememdlekaaDoorFmNum
set_option linter.unusedVariables false
set_option linter.unusedSimpArgs false
namespace Go.Proofs.YthfmmememdlekaaDoor
open Go.RowKit Num

/-- What taking without a result comes to. -/
def GoPost (w : World) (rb : Nat) (s : ByteArray) (r : List UInt8) (o : Option (List UInt8 × List UInt8)) (e : Ending) (w' : World) : Prop :=
  w.grownBy w' (some rb) ∧ match o with
    | none => e = .panicked (wrongCh (posR s r : Int))
    | some (_, q) => e = .returned (.tuple #[]) ∧ Rd w' rb s q
theorem Rd.below {w w' : World} {rb : Nat} {s : ByteArray} {r : List UInt8} (h : Rd w rb s r) (hb : Below w.heap.size w w') : Rd w' rb s r := h.keep (hb.block rb h.lt)
set_option maxRecDepth 100000 in
set_option maxHeartbeats 2000000 in
theorem f_exactly (rb : Nat) (c : List UInt8) (s : ByteArray) (r : List UInt8) (w : World) (hr : Rd w rb s r) (hs : s.size ≤ 100000) (hl : LibOk w) :
    Calls Tryd.prog 62 #[.pointer (some ⟨rb, 0, none⟩), .string (bsOf c)] w (GoPost w rb s r (takeB (· == c) r)) := by
  have hb : Below w.heap.size w (w.alloc (.cells #[.string (bsOf c)] 9)) := (Below.refl _ _).alloc (Nat.le_refl _) _
  have h := f_take1 rb 82 w.heap.size s r (· == c) (w.alloc (.cells #[.string (bsOf c)] 9)) (hr.below hb) hs (hl.later hb)
    (callFunc_body Tryd.func82 (by kernel_rfl) (by kernel_rfl)) (fun n _ => g_exact (wordB r) c w.heap.size _ (by show (w.alloc _).cell? _ = _; simp))
  have H := Lib.hid h
  have HB := Lib.hid hb
  clear h hb hr hl
  cases ht : takeB (· == c) r with
  | none =>
    have HT := Lib.hid ht
    clear ht
    go_enter Tryd.func62, Tryd.ntmps62
    go_wp2_with fail
    refine H.out.mono ?_
    rw [HT.out]
    rintro e w1 ⟨hg, rfl⟩
    go_wp2_with fail
    exact ⟨rfl, (only_of_below HB.out (some rb)).trans hg, rfl⟩
  | some o =>
    obtain ⟨x, q⟩ := o
    have HT := Lib.hid ht
    clear ht
    go_enter Tryd.func62, Tryd.ntmps62
    go_wp2_with fail
    refine H.out.mono ?_
    rw [HT.out]
    rintro e w1 ⟨hg, rfl, hrd⟩
    have HRD := Lib.hid hrd
    clear hrd
    go_wp2_with fail
    go_end0
    exact ⟨(only_of_below HB.out (some rb)).trans hg, rfl, HRD.out⟩
/-- What reading a number comes to. -/
def NumPost (w : World) (rb : Nat) (s : ByteArray) (r : List UInt8) (o : Option (Int × List UInt8)) (e : Ending) (w' : World) : Prop :=
  w.grownBy w' (some rb) ∧ match o with
    | none => e = .panicked (wrongCh (posR s r : Int))
    | some (n, q) => e = .returned (.int .i64 n) ∧ Rd w' rb s q
theorem TabOk.grown {w w' : World} {row : Option Nat} (h : TabOk w) (hg : w.grownBy w' row) (hr : ∀ b, row = some b → 6 ≤ b) : TabOk w' := by
  have e : Tryd.prog.globalNamed "internal/strconv.uint64pow10" = some 1 := by kernel_rfl
  have hlt := tab_lt h
  unfold TabOk Lib.TabIs World.var? at h ⊢
  rw [e] at h ⊢
  simp only [Option.bind_some] at h ⊢
  rw [hg.block _ hlt (fun e' => by have := hr _ e'.symm; omega)]
  exact h
theorem LibOk.grown {w w' : World} {row : Option Nat} (h : LibOk w) (hg : w.grownBy w' row) (hr : ∀ b, row = some b → 6 ≤ b) : LibOk w' := by
  have hs := h.size
  have key : ∀ g, g < 6 → w'.cell? ⟨g, 0, none⟩ = w.cell? ⟨g, 0, none⟩ := fun g hg6 => World.cell?_of_block (hg.block g (by omega) (fun e => by have := hr _ e.symm; omega))
  refine ⟨h.tab.grown hg hr, ?_, ?_, ?_, Nat.le_trans hs hg.size⟩
  · obtain ⟨tp, p, e⟩ := h.err1; exact ⟨tp, p, (key _ (by decide)).trans e⟩
  · obtain ⟨tp, p, e⟩ := h.err2; exact ⟨tp, p, (key _ (by decide)).trans e⟩
  · obtain ⟨m, e⟩ := h.most; exact ⟨m, (key _ (by decide)).trans e⟩
set_option maxRecDepth 100000 in
set_option maxHeartbeats 2000000 in
theorem f_number (rb : Nat) (s : ByteArray) (r : List UInt8) (w : World) (hr : Rd w rb s r) (h6 : 6 ≤ rb) (hs : s.size ≤ 100000) (hl : LibOk w) :
    Calls Tryd.prog 61 #[.pointer (some ⟨rb, 0, none⟩)] w (NumPost w rb s r (numF r)) := by
  have hrl := hr.pos.2.2.2
  have hwl := word_len r
  have h := f_take rb 80 s r numB' w hr hs hl
    (callFunc_body Tryd.func80 (by kernel_rfl) (by kernel_rfl)) (fun n _ => g_num (wordB r) _ (by omega) (hl.grown (grown_drewN w n none) (fun b hb => by cases hb)))
  have H := Lib.hid h
  have HL := Lib.hid hl
  clear h hr hl
  cases ht : takeB numB' r with
  | none =>
    have e : numF r = none := by unfold numF; rw [ht]
    have HT := Lib.hid ht
    rw [e]
    clear ht e
    go_enter Tryd.func61, Tryd.ntmps61
    go_wp2_with fail
    refine H.out.mono ?_
    rw [HT.out]
    rintro e w1 ⟨hg, rfl⟩
    go_wp2_with fail
    exact ⟨rfl, hg, rfl⟩
  | some o =>
    obtain ⟨x, q⟩ := o
    obtain ⟨t1, t2, t3, t4⟩ := take_sp (a := []) ht
    obtain ⟨n, hn⟩ : ∃ n, isNumB x = some n := by unfold numB' at t3; exact Option.isSome_iff_exists.1 t3
    have e : numF r = some (n, q) := by unfold numF; rw [ht]; simp only [hn]
    have hxl : x.length ≤ 100000 := by rw [t2]; omega
    have hat : Lib.atoiAll x = .ok n := by
      unfold isNumB at hn
      split at hn
      · rename_i v hv
        split at hn
        · injection hn with hn; rw [hv, hn]
        · cases hn
      · cases hn
    have hsz := bsOf_data' x
    have hs1 : (bsOf x).size ≤ 1000000 := by omega
    have HT := Lib.hid ht
    have HAT := Lib.hid hat
    rw [e]
    clear ht e t1 t2 t3 t4 hn hat hsz
    go_enter Tryd.func61, Tryd.ntmps61
    go_wp2_with fail
    refine H.out.mono ?_
    rw [HT.out]
    rintro e w1 ⟨hg, rfl, hrd⟩
    have hl1 : LibOk w1 := HL.out.grown hg (fun b hb => by injection hb with hb; omega)
    have HL1 := Lib.hid hl1
    have HRD := Lib.hid hrd
    clear hrd hl1
    go_wp2_with fail
    refine (i_Atoi (bsOf x) _ hs1 HL1.out).mono ?_
    rw [blOf_bsOf]
    rintro e w2 (⟨v, hv, rfl, v1, v2, hb⟩ | ⟨hno, -⟩)
    · obtain rfl : n = v := by rw [HAT.out] at hv; injection hv
      clear hv
      go_wp2_with fail
      go_ret
      exact ⟨hg.trans (only_of_below hb (some rb)), rfl, HRD.out.below hb⟩
    · exact absurd HAT.out (hno n)
end Go.Proofs.YthfmmememdlekaaDoor
