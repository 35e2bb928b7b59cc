/- Contracts: the reader's spaces, and its panic. -/
import Derived.Test.YthfmmememdlekaaDoorFmLib
set_option linter.unusedVariables false
set_option linter.unusedSimpArgs false
namespace Go.Proofs.YthfmmememdlekaaDoor
open Go.RowKit Num

/-- The reader in a block, with what is left of its text. -/
def Rd (w : World) (rb : Nat) (s : ByteArray) (r : List UInt8) : Prop := ∃ p : Nat, Blk w rb 83 #[.string s, .int .i64 (p : Int)] ∧ p ≤ s.size ∧ (blOf s).drop p = r
theorem Rd.lt {w : World} {rb : Nat} {s : ByteArray} {r : List UInt8} (h : Rd w rb s r) : rb < w.heap.size := by obtain ⟨p, hb, _⟩ := h; exact hb.lt
theorem Rd.keep {w w' : World} {rb : Nat} {s : ByteArray} {r : List UInt8} (h : Rd w rb s r) (hk : w'.heap[rb]? = w.heap[rb]?) : Rd w' rb s r := by
  obtain ⟨p, hb, h1, h2⟩ := h; exact ⟨p, hk.trans hb, h1, h2⟩
/-- Where the reader stands. -/
def posR (s : ByteArray) (r : List UInt8) : Nat := s.size - r.length
theorem Rd.pos {w : World} {rb : Nat} {s : ByteArray} {r : List UInt8} (h : Rd w rb s r) : Blk w rb 83 #[.string s, .int .i64 (posR s r : Int)] ∧ posR s r ≤ s.size ∧ (blOf s).drop (posR s r) = r ∧ r.length ≤ s.size := by
  obtain ⟨p, hb, h1, h2⟩ := h
  have hl : r.length = s.size - p := by rw [← h2, List.length_drop, blOf_len]
  have e : posR s r = p := by unfold posR; omega
  rw [e]; exact ⟨hb, h1, h2, by omega⟩
theorem Rd.mk' {w : World} {rb p : Nat} {s : ByteArray} {r : List UInt8} (hb : Blk w rb 83 #[.string s, .int .i64 (p : Int)]) (h1 : p ≤ s.size) (h2 : (blOf s).drop p = r) : Rd w rb s r := ⟨p, hb, h1, h2⟩
theorem drop_cons {s : ByteArray} {p : Nat} (h : p < s.size) : (blOf s).drop p = s[p] :: (blOf s).drop (p + 1) := by
  rw [List.drop_eq_getElem_cons (by rw [blOf_len]; exact h)]; rfl
def wrongCh (p : Int) : List PanicEntry := [{ v := .iface 84 (.int .i64 p), recovered := false }]
set_option maxHeartbeats 1000000 in
theorem f_fail (rb p : Nat) (s : ByteArray) (w : World) (hb : Blk w rb 83 #[.string s, .int .i64 (p : Int)]) :
    Calls Tryd.prog 39 #[.pointer (some ⟨rb, 0, none⟩)] w fun e w' => e = .panicked (wrongCh p) ∧ w = w' := by
  have c1 := (hb.cell 1).trans (show _ = some (Value.int .i64 (p : Int)) from rfl)
  go_enter Tryd.func39, Tryd.ntmps39
  go_wp2_with fail
  exact ⟨rfl, rfl, rfl⟩
/-- How far the reader is from the end. -/
def farR (w : World) (rb n : Nat) : Nat := match w.cell? ⟨rb, 1, none⟩ with
  | some (.int _ p) => n - p.toNat
  | _ => 0
theorem farR_of {w : World} {rb n p : Nat} (h : w.cell? ⟨rb, 1, none⟩ = some (.int .i64 (p : Int))) : farR w rb n = n - p := by unfold farR; rw [h]; simp
def ReadPost (w : World) (rb : Nat) (s : ByteArray) (r : List UInt8) (e : Ending) (w' : World) : Prop := e = .returned (.tuple #[]) ∧ Rd w' rb s r ∧ w.grownBy w' (some rb)
theorem grown_drewN (w : World) (n : Nat) (row : Option Nat) : w.grownBy (w.drewN n) row := ⟨rfl, rfl, rfl, Nat.le_refl _, fun _ _ _ => rfl⟩
theorem space_cons_sp {c : UInt8} {q : List UInt8} (h : spB c = true) : spaceB (c :: q) = spaceB q := by unfold spaceB; rw [List.dropWhile_cons, if_pos h]
theorem u8_ne {c : UInt8} {n : Nat} (hn : n < 256) (h : c ≠ UInt8.ofNat n) : ((c.toNat : Int) == (n : Int)) = false := by
  rw [beq_eq_false_iff_ne]
  intro e
  apply h
  apply UInt8.toNat_inj.1
  rw [UInt8.toNat_ofNat_of_lt' (by simpa using hn)]; omega
theorem rd_step {wr : World} {rb p : Nat} {s : ByteArray} (hb : Blk wr rb 83 #[.string s, .int .i64 (p : Int)]) (q : Nat) : Blk ((wr.drewN q).setCell ⟨rb, 1, none⟩ (.int .i64 ((p : Int) + 1))) rb 83 #[.string s, .int .i64 ((p + 1 : Nat) : Int)] := (hb.drewN q).set_ 1 (.int .i64 ((p : Int) + 1))
theorem grown_set (w : World) (p : Addr) (v : Value) : w.grownBy (w.setCell p v) (some p.block) :=
  ⟨rfl, rfl, rfl, by simp [World.setCell], fun i _ hn => Below.heap_setCell w p v i (fun e => hn (by rw [e]))⟩
set_option maxRecDepth 100000 in
set_option maxHeartbeats 2000000 in
theorem f_space (rb : Nat) (s : ByteArray) (r : List UInt8) (w : World) (hr : Rd w rb s r) (hs : s.size ≤ 100000) :
    Calls Tryd.prog 37 #[.pointer (some ⟨rb, 0, none⟩)] w (ReadPost w rb s (spaceB r)) := by
  have HR := Lib.hid hr
  clear hr
  go_enter Tryd.func37, Tryd.ntmps37
  go_wp2_with fail
  go_loopw [5] (fun v5 wr => ∃ r', Rd wr rb s r' ∧ spaceB r' = spaceB r ∧ w.grownBy wr (some rb)) (fun _ wr => farR wr rb s.size)
  case atStart => exact ⟨r, HR.out, rfl, World.grownBy.refl _ _⟩
  case round =>
    obtain ⟨r', hrd, hsp, hg⟩ := hrel
    obtain ⟨p, hb, hp, hdr⟩ := hrd
    have c0 := (hb.cell 0).trans (show _ = some (Value.string s) from rfl)
    have c1 := (hb.cell 1).trans (show _ = some (Value.int .i64 (p : Int)) from rfl)
    have f1 := hb.frozen 1
    have HB := Lib.hid hb
    have HSP := Lib.hid hsp
    have HG := Lib.hid hg
    clear hb hsp hg
    have zp : (0 : Int) ≤ (p : Int) := by omega
    by_cases hlt : p < s.size
    · have hd := drop_cons hlt
      rw [hdr] at hd
      have q1 : (p : Int) < (s.size : Int) := by omega
      have q2 : decide ((p : Int) < (s.size : Int)) = true := by simpa using hlt
      have q3 : decide (p < s.size) = true := by simpa using hlt
      have HD := Lib.hid hd
      have HDR := Lib.hid hdr
      clear hd hdr
      by_cases h32 : s[p] = 32
      · have t1 : ((s[p].toNat : Int) == 32) = true := by rw [h32]; rfl
        have H32 := Lib.hid h32
        clear h32
        have HSPC : spB s[p] = true := by rw [H32.out]; rfl
        have HSPC := Lib.hid HSPC
        go_wp2_with fail
        go_quiet (fail)
        go_wp2_with fail
        go_roundw
        case measure =>
          rw [farR_of c1, farR_of (p := p + 1) (((rd_step HB.out _).cell 1).trans rfl)]; omega
        case rel =>
          refine ⟨_, ⟨p + 1, rd_step HB.out _, by omega, rfl⟩, ?_, HG.out.trans ((grown_drewN _ _ _).trans (grown_set _ _ _))⟩
          rw [← HSP.out, HD.out]; exact (space_cons_sp HSPC.out).symm
      · have t1 : ((s[p].toNat : Int) == 32) = false := u8_ne (n := 32) (by decide) h32
        by_cases h10 : s[p] = 10
        · have t2 : ((s[p].toNat : Int) == 10) = true := by rw [h10]; rfl
          have HSPC : spB s[p] = true := by rw [h10]; rfl
          have HSPC := Lib.hid HSPC
          clear h32 h10
          go_wp2_with fail
          go_quiet (fail)
          go_wp2_with fail
          go_roundw
          case measure =>
            rw [farR_of c1, farR_of (p := p + 1) (((rd_step HB.out _).cell 1).trans rfl)]; omega
          case rel =>
            refine ⟨_, ⟨p + 1, rd_step HB.out _, by omega, rfl⟩, ?_, HG.out.trans ((grown_drewN _ _ _).trans (grown_set _ _ _))⟩
            rw [← HSP.out, HD.out]; exact (space_cons_sp HSPC.out).symm
        · have t2 : ((s[p].toNat : Int) == 10) = false := u8_ne (n := 10) (by decide) h10
          have hsp0 : spB s[p] = false := by simp [spB, h32, h10]
          have HS0 := Lib.hid hsp0
          clear h32 h10 hsp0
          go_wp2_with fail
          go_quiet (fail)
          go_wp2_with fail
          go_end0
          refine ⟨rfl, ?_, HG.out.trans (grown_drewN _ _ _)⟩
          have e : spaceB r = r' := by rw [← HSP.out, HD.out]; exact space_stop (.inr HS0.out)
          rw [e]
          exact ⟨p, HB.out, hp, HDR.out⟩
    · have hpe : p = s.size := by omega
      have q1 : ¬ (p : Int) < (s.size : Int) := by omega
      have q2 : decide ((p : Int) < (s.size : Int)) = false := by simpa using hlt
      have q3 : decide (p < s.size) = false := by simpa using hlt
      have hr0 : r' = [] := by rw [← hdr]; exact List.drop_eq_nil_of_le (by rw [blOf_len]; omega)
      have HR0 := Lib.hid hr0
      have HDR := Lib.hid hdr
      clear hr0 hdr hpe
      go_wp2_with fail
      go_quiet (fail)
      go_wp2_with fail
      go_end0
      refine ⟨rfl, ?_, HG.out.trans (grown_drewN _ _ _)⟩
      have e : spaceB r = r' := by rw [← HSP.out, HR0.out]; rfl
      rw [e]
      exact ⟨p, HB.out, hp, HDR.out⟩
end Go.Proofs.YthfmmememdlekaaDoor
