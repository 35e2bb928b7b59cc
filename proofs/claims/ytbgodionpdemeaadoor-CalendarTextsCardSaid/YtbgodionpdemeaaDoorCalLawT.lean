/- The walk of CalendarTexts: the law returns true at every input, where the library's variables are as they are laid. -/
import Derived.Test.YtbgodionpdemeaaDoorCalSpoil
set_option linter.unusedVariables false
set_option linter.unusedSimpArgs false
namespace Go.Proofs.YtbgodionpdemeaaDoor
open Go.RowKit Cal

theorem below_out {W w1 : World} {o : Obj} (h : Below (W.heap.size + 1) (W.alloc o) w1) : Below W.heap.size W w1 :=
  ((Below.refl _ _).alloc (Nat.le_refl _) o).trans (h.mono (by omega))
theorem below_call {a w0 w1 : World} {o : Obj} (h : Below (a.heap.size + 1) (a.alloc o) w0) (h2 : Below w0.heap.size w0 w1) : Below (a.heap.size + 1) (a.alloc o) w1 := by
  have hs := h.size
  simp at hs
  exact h.trans (h2.mono hs)
theorem below_seq {a b c : World} (h : Below a.heap.size a b) (k : Below b.heap.size b c) : Below a.heap.size a c := h.trans (k.mono h.size)
def pick2 (a b : Int) (k : Nat) : Int := if k = 0 then a else b
theorem cell2_at {W wr : World} {a b : Int} {T : TypeId} {k : Nat} (h : Below (W.heap.size + 1) (W.alloc (.cells #[.int .i64 a, .int .i64 b] T)) wr) (hk : k < 2) :
    wr.cell? ⟨W.heap.size, k, none⟩ = some (.int .i64 (pick2 a b k)) := by
  rw [h.cell (p := ⟨W.heap.size, k, none⟩) (by simp)]
  have : k = 0 ∨ k = 1 := by omega
  rcases this with rfl | rfl <;> simp [pick2]
def t1L : List UInt8 := [48, 48, 48, 48, 45, 48, 49, 45, 48, 49]
def t2L : List UInt8 := [50, 48, 48, 48, 45, 48, 50, 45, 51, 48]
def t3L : List UInt8 := [50, 48, 48, 48, 45, 49, 51, 45, 48, 49]
def pick7 (a b c d : List UInt8) (k : Nat) : List UInt8 := if k = 0 then a else if k = 1 then b else if k = 2 then c else if k = 3 then d else if k = 4 then t1L else if k = 5 then t2L else t3L
def texts (a b c d : List UInt8) : Array Value := #[.string ⟨a.toArray⟩, .string ⟨b.toArray⟩, .string ⟨c.toArray⟩, .string ⟨d.toArray⟩, .string ⟨t1L.toArray⟩, .string ⟨t2L.toArray⟩, .string ⟨t3L.toArray⟩]
theorem cell7_at {W wr : World} {a b c d : List UInt8} {T : TypeId} {k : Nat} (h : Below (W.heap.size + 1) (W.alloc (.cells (texts a b c d) T)) wr) (hk : k < 7) :
    wr.cell? ⟨W.heap.size, k, none⟩ = some (.string ⟨(pick7 a b c d k).toArray⟩) := by
  rw [h.cell (p := ⟨W.heap.size, k, none⟩) (by simp)]
  have : k = 0 ∨ k = 1 ∨ k = 2 ∨ k = 3 ∨ k = 4 ∨ k = 5 ∨ k = 6 := by omega
  rcases this with rfl | rfl | rfl | rfl | rfl | rfl | rfl <;> simp [pick7, texts]
theorem pick7_len {a b c d : List UInt8} (ha : a.length ≤ 100) (hb : b.length ≤ 100) (hc : c.length ≤ 100) (hd : d.length ≤ 100) (k : Nat) : (pick7 a b c d k).length ≤ 1000 := by
  unfold pick7
  repeat' split
  all_goals first | omega | (show 10 ≤ 1000; omega)
theorem text_le (n : Int) : (textN n).length ≤ 10 := by
  by_cases h : okN n
  · rw [text_len h]; omega
  · rw [textN, if_neg h]; simp

set_option maxRecDepth 100000 in
set_option maxHeartbeats 2000000 in
theorem law_texts_long (a0 a2 a3 : Int) (s : ByteArray) (w : World) (hs : 50 < s.size) :
    Calls Tryd.prog 4 #[.int .i64 a0, .string s, .int .i64 a2, .int .i64 a3] w fun e w' => e = .returned (.bool true) ∧ Below w.heap.size w w' := by
  go_enter Tryd.func4, Tryd.ntmps4
  go_wp2_with fail
  refine (law_awake _).mono ?_
  rintro e w1 ⟨rfl, hb⟩
  go_wp2_with fail
  go_ret
  exact ⟨rfl, hb⟩

set_option maxRecDepth 100000 in
set_option maxHeartbeats 2000000 in
theorem law_texts_short (a0 a2 a3 : Int) (l : List UInt8) (w : World) (h : LibOk w) (hs : l.length ≤ 50) :
    Calls Tryd.prog 4 #[.int .i64 a0, .string ⟨l.toArray⟩, .int .i64 a2, .int .i64 a3] w fun e w' => e = .returned (.bool true) ∧ Below w.heap.size w w' := by
  have hls : (⟨l.toArray⟩ : ByteArray).size = l.length := ba_sz l
  have m1 := kmod_bd a0 (m := 3652059) (by omega)
  have hI := Lib.hid h
  clear h
  go_enter Tryd.func4, Tryd.ntmps4
  go_wp2_with fail
  refine (kit_Mod _ _ _ (by omega) (by omega)).mono ?_
  rintro e w' ⟨rfl, rfl⟩
  go_wp2_with fail
  go_loopw [30] (fun i wr => ∃ k : Nat, k ≤ 2 ∧ i = .int .i64 k ∧ Below (w.heap.size + 1) (w.alloc (.cells #[.int .i64 a0, .int .i64 (kmod a0 3652059)] 3)) wr) (fun i _ => 2 - (intOf i).toNat)
  case atStart => exact ⟨0, by omega, rfl, Below.refl _ _⟩
  case round =>
    obtain ⟨k, hk, rfl, hb⟩ := hrel
    by_cases hlt : k < 2
    · have hcell := cell2_at hb hlt
      obtain ⟨n, hn⟩ : ∃ y, pick2 a0 (kmod a0 3652059) k = y := ⟨_, rfl⟩
      rw [hn] at hcell
      clear hn
      obtain ⟨wo, rfl⟩ : ∃ wo : World, wo = wr := ⟨_, rfl⟩
      have HB := Lib.hid hb
      have I0 := Lib.hid (hI.out.later (below_out hb))
      clear hb
      have tl := text_le n
      go_wp2_with fail
      refine (cal_Text _ _ I0.out.tab).mono ?_
      rintro e w1 ⟨rfl, hb1⟩
      have I1 := Lib.hid (I0.out.later hb1)
      have B1 := Lib.hid (below_call HB.out hb1)
      clear hcell
      go_wp2_with fail
      refine (ref_Text _ _).mono ?_
      rintro e w' ⟨rfl, rfl⟩
      go_wp2_with fail
      refine (kit_Spoil_any _ _ _ _ (by omega)).mono ?_
      rintro e w2 ⟨l2, hl2, rfl, hb2⟩
      have I2 := Lib.hid (I1.out.later hb2)
      have B2 := Lib.hid (below_call B1.out hb2)
      have tl2 : l2.length ≤ 10 := by omega
      have hx : ((⟨(textN n).toArray⟩ : ByteArray) ++ ⟨#[48]⟩) = ⟨(textN n ++ [48]).toArray⟩ := bapp _ [48]
      clear hl2
      go_wp2_with fail
      have ld : (textN n ++ [48]).length ≤ 100 := by simp; omega
      have lp := pick7_len (a := textN n) (b := l) (c := l2) (d := textN n ++ [48]) (by omega) (by omega) (by omega) ld
      clear hx
      go_loopw [62] (fun i wr => ∃ k : Nat, k ≤ 7 ∧ i = .int .i64 k ∧ Below (w2.heap.size + 1) (w2.alloc (.cells (texts (textN n) l l2 (textN n ++ [48])) 9)) wr) (fun i _ => 7 - (intOf i).toNat)
      case atStart => exact ⟨0, by omega, rfl, Below.refl _ _⟩
      case round =>
        obtain ⟨k2, hk2, rfl, hb3⟩ := hrel
        by_cases hlt2 : k2 < 7
        · have hcell2 := cell7_at hb3 hlt2
          have lx := lp k2
          obtain ⟨x, hx⟩ : ∃ x, pick7 (textN n) l l2 (textN n ++ [48]) k2 = x := ⟨_, rfl⟩
          rw [hx] at hcell2 lx
          clear hx lp
          obtain ⟨wp, rfl⟩ : ∃ wp : World, wp = wr := ⟨_, rfl⟩
          have HB3 := Lib.hid hb3
          have I3 := Lib.hid (I2.out.later (below_out hb3))
          clear hb3
          go_wp2_with fail
          refine (cal_Parse _ _ I3.out lx).mono ?_
          rintro e w3 ⟨rfl, hb4⟩
          have B4 := Lib.hid (below_call HB3.out hb4)
          go_wp2_with fail
          refine (ref_Parse _ _ lx).mono ?_
          rintro e w4 ⟨rfl, hb5⟩
          go_wp2_with fail
          go_roundw
          case rel => exact ⟨k2 + 1, by omega, by go_num, below_call B4.out hb5⟩
          case measure => simp [intOf]; omega
        · have hk2' : k2 = 7 := by omega
          subst hk2'
          go_wp2_with fail
          go_roundw
          case rel => exact ⟨k + 1, by omega, by go_num, below_call B2.out (below_out hb3)⟩
          case measure => simp [intOf]; omega
    · have hk' : k = 2 := by omega
      subst hk'
      have HB := Lib.hid (below_out hb)
      clear hb
      go_wp2_with fail
      refine (law_awake _).mono ?_
      rintro e w3 ⟨rfl, hb5⟩
      go_wp2_with fail
      go_ret
      exact ⟨rfl, below_seq HB.out hb5⟩

theorem law_texts (a0 : Int) (s : ByteArray) (a2 a3 : Int) (w : World) (h : LibOk w) :
    Calls Tryd.prog 4 #[.int .i64 a0, .string s, .int .i64 a2, .int .i64 a3] w fun e w' => e = .returned (.bool true) ∧ Below w.heap.size w w' := by
  by_cases hs : 50 < s.size
  · exact law_texts_long a0 a2 a3 s w hs
  · have e := ba_eta s
    have := law_texts_short a0 a2 a3 s.data.toList w h (by rw [e, ba_sz] at hs; omega)
    rw [← e] at this
    exact this
end Go.Proofs.YtbgodionpdemeaaDoor
