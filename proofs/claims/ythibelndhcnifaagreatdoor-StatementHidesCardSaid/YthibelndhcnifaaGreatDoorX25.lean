/- Words for memory: a list of terms of one's own is a list of terms. Contracts: the kit's Condition. Contracts: the reader's spaces, and its panic. -/
import Derived.Test.YthibelndhcnifaaGreatDoorX15
import Derived.Test.YthibelndhcnifaaGreatDoorX24
import Derived.Test.YthibelndhcnifaaGreatDoorX04
import Derived.Test.YthibelndhcnifaaGreatDoorX09
import Derived.Deep.CutRange
import Derived.Deep.CutBlock
import Derived.Test.YthibelndhcnifaaGreatDoorX16
import Derived.Test.YthibelndhcnifaaGreatDoorX07
set_option linter.unusedVariables false
set_option linter.unusedSimpArgs false
namespace Go.Proofs.YthibelndhcnifaaGreatDoor
open Go.RowKit Num

theorem own_ints {w : World} {B : Nat} {v : Value} {xs : List Int} (h : w.ownsRow B 3 1 v xs.length (xs.map (Value.int .i64))) : IntsAt w (fun b => B ≤ b ∧ b < w.heap.size) v xs := by
  rcases Nat.eq_zero_or_pos xs.length with h0 | h0
  · rcases h.2 with ⟨rfl, _⟩ | ⟨g', cap, cur, rfl, _, _, h2, _⟩
    · exact ⟨none, 0, 0, rfl, h0.symm, by omega, fun h1 => absurd h1 (by omega)⟩
    · exact ⟨_, xs.length, cap, rfl, rfl, h2, fun h1 => absurd h1 (by omega)⟩
  · obtain ⟨g, c, rfl, hg, hlt⟩ := h.form h0
    refine ⟨some ⟨g, 0, none⟩, xs.length, c, rfl, rfl, ?_, fun _ => ⟨g, 0, rfl, ⟨hg, hlt⟩, fun k hk => ?_⟩⟩
    · rcases h.2 with ⟨h1, _⟩ | ⟨g', cap, cur, h1, _, _, h2, _⟩
      · cases h1
      · injection h1 with _ _ h1; omega
    · rw [Nat.zero_add]
      exact own_cell h k _ (by rw [List.getElem?_map, List.getElem?_eq_getElem hk, List.getD_eq_getElem?_getD, List.getElem?_eq_getElem hk]; rfl)
theorem OwnTs.terms {w : World} {B : Nat} {v : Value} {L : List Trm} {us : Nat → Value} (h : OwnTs w B v L us) : TermsAt w (fun b => B ≤ b ∧ b < w.heap.size) v L := by
  rcases Nat.eq_zero_or_pos L.length with h0 | h0
  · rcases h.row.2 with ⟨rfl, _⟩ | ⟨g', cap, cur, rfl, _, _, h2, _⟩
    · exact ⟨none, 0, 0, rfl, h0.symm, by omega, fun h1 => absurd h1 (by omega)⟩
    · exact ⟨_, L.length, cap, rfl, rfl, h2, fun h1 => absurd h1 (by omega)⟩
  · obtain ⟨g, c, rfl, hg, hlt⟩ := h.row.form h0
    refine ⟨some ⟨g, 0, none⟩, L.length, c, rfl, rfl, ?_, fun _ => ⟨g, 0, rfl, ⟨hg, hlt⟩, fun k hk => ?_⟩⟩
    · rcases h.row.2 with ⟨h1, _⟩ | ⟨g', cap, cur, h1, _, _, h2, _⟩
      · cases h1
      · injection h1 with _ _ h1; omega
    · have hc : ∀ i u, i < 6 → (tmCell (trmAt L k) (us k)).getD i undef = u → w.cell? ⟨g, 0 + k * 6 + i, none⟩ = some u := by
        intro i u hi hu
        rw [Nat.zero_add]
        exact own_cell h.row (k * 6 + i) u (by rw [tmsC_at L us k i hk hi, hu])
      refine ⟨hc 0 _ (by decide) rfl, hc 1 _ (by decide) rfl, hc 2 _ (by decide) rfl, hc 3 _ (by decide) rfl, hc 4 _ (by decide) rfl, us k, hc 5 _ (by decide) rfl, ?_⟩
      exact own_ints (h.args k hk)
end Go.Proofs.YthibelndhcnifaaGreatDoor
namespace Go.Proofs.YthibelndhcnifaaGreatDoor
open Go.RowKit Num

theorem k_grow : ∀ (d : Nat), d ≤ 9 → GrowC d := by
  intro d
  induction d with
  | zero => intro h; exact k_grow_step 0 h (fun d' e => by omega)
  | succ d ih => intro h; exact k_grow_step (d + 1) h (fun d' e _ => by
      have h2 : d = d' := by omega
      subst h2
      exact ih (by omega))
def CondE1 (w : World) (db d : Nat) (e : Ending) (w' : World) : Prop := ∃ A n c L, e = .returned (.agg #[.slice A n c]) ∧ TermsAt w' (fun b => w.heap.size ≤ b ∧ b < w'.heap.size) (.slice A n c) L ∧ L.length ≤ szK d ∧ (∀ t ∈ L, KitT t) ∧ Dc w' db ∧ w.grownBy w' (some db) ∧ 1 ≤ L.length
set_option maxRecDepth 100000 in
set_option maxHeartbeats 400000 in
theorem k_Condition1 (db d : Nat) (w : World) (hd : Dc w db) (h4 : d ≤ 5) : Calls Tryz.prog 18 #[.pointer (some ⟨db, 0, none⟩), .int .i64 (d : Int)] w (CondE1 w db d) := by
  have hlt := hd.lt
  have hsz : szK d ≤ 1000 := by
    have : d = 0 ∨ d = 1 ∨ d = 2 ∨ d = 3 ∨ d = 4 ∨ d = 5 := by omega
    rcases this with rfl | rfl | rfl | rfl | rfl | rfl <;> decide
  have HD := Lib.hid hd
  have HSZ := Lib.hid hsz
  clear hd hsz
  go_enter Tryz.func18, Tryz.ntmps18
  go_wp2_with fail
  have hb0 : Blk ((w.alloc (.cells #[.slice none 0 0] 30)).alloc (.cells #[.slice none 0 0] 30)) w.heap.size 30 #[.slice none 0 0] := (Blk.new w _ _).alloc _
  have hb1 : Blk ((w.alloc (.cells #[.slice none 0 0] 30)).alloc (.cells #[.slice none 0 0] 30)) (w.heap.size + 1) 30 #[.slice none 0 0] := by
    have := Blk.new (w.alloc (.cells #[.slice none 0 0] 30)) 30 #[.slice none 0 0]
    rwa [World.size_alloc] at this
  have HB0 := Lib.hid hb0
  have hbw : Below w.heap.size w ((w.alloc (.cells #[.slice none 0 0] 30)).alloc (.cells #[.slice none 0 0] 30)) := ((Below.refl _ _).alloc (Nat.le_refl _) _).alloc (by simp) _
  have HBW := Lib.hid hbw
  refine (k_grow d (by omega) _ db (w.heap.size + 1) w.heap.size (.slice none 0 0) [] (fun _ => undef) ((HD.out.alloc _).alloc _) hlt (by omega) hb1 (OwnTs.nil _ _ _) (fun t ht => by cases ht) (by have := HSZ.out; simp; omega)).mono ?_
  rintro e w1 ⟨rfl, v, L, us, hK, hl⟩
  obtain ⟨A, c, rfl⟩ := own_slice hK.own.row
  have hz0 := hK.chg.blk HB0.out (fun e => by rcases e with e | e | e <;> first | omega | cases e)
  have c1 := (hK.blk.cell 0).trans (show _ = some (Value.slice A L.length c) from rfl)
  have c0 := (hz0.cell 0).trans (show _ = some (Value.slice none 0 0) from rfl)
  have f0 := hz0.frozen 0
  have hT := hK.own.terms
  have hs1 := hK.chg.size
  simp only [World.size_alloc] at hs1
  have hn1 : ∀ g, (Value.slice A L.length c).ownBlock = some g → g ≠ w.heap.size := own_not hK.own.row hz0 (by decide)
  have HKK := Lib.hid hK
  have HL := Lib.hid hl
  clear hb0 hb1 hbw hK hz0 hl hT
  go_wp2_with fail
  refine bodyPost_ret (v := .agg #[.slice A L.length c]) ?_ rfl ?_
  · have e1 : (w1.setCell ⟨w.heap.size, 0, none⟩ (.slice A L.length c)).cell? ⟨w.heap.size, 0, none⟩ = some (.slice A L.length c) := World.cell?_setCell_same w1 ⟨w.heap.size, 0, none⟩ _ c0
    simp [results, Tryz.results18, go_sem, e1]
  · have hK := HKK.out
    have hchg : Chg w1 (w1.setCell ⟨w.heap.size, 0, none⟩ (.slice A L.length c)) (fun i => i = w.heap.size) := chg_set w1 w.heap.size 0 _
    have hz0 := hK.chg.blk HB0.out (fun e => by rcases e with e | e | e <;> first | omega | cases e)
    have ho := hK.own.chg hchg (fun g hg e => hn1 g hg e) (fun k hk g hg e => own_not (hK.own.args k hk) hz0 (by decide) g hg e)
    refine ⟨_, _, _, L, rfl, ho.terms, by simpa using HL.out, hK.kit, hK.dc.keep (fun q hq => Below.heap_setCell _ _ _ q (by show q ≠ w.heap.size; omega)), ?_⟩
    refine ⟨?_, hK.len⟩
    refine ⟨hchg.os.trans (hK.chg.os.trans HBW.out.os), hchg.tape.trans (hK.chg.tape.trans HBW.out.tape), hchg.output.trans (hK.chg.output.trans HBW.out.output), by have := hchg.size; omega, fun i hi hne => ?_⟩
    have e1 : i ≠ db := fun e => hne (by rw [e])
    exact (hchg.block i (by omega) (by omega)).trans ((hK.chg.block i (by simp; omega) (fun e => by rcases e with e | e | e <;> first | exact e1 e | omega | cases e)).trans (HBW.out.block i hi))
end Go.Proofs.YthibelndhcnifaaGreatDoor
namespace Go.Proofs.YthibelndhcnifaaGreatDoor
open Go.RowKit Num

/-- The reader in a block, with what is left of its text. -/
def Rd (w : World) (rb : Nat) (s : ByteArray) (r : List UInt8) : Prop := ∃ p : Nat, Blk w rb 126 #[.string s, .int .i64 (p : Int)] ∧ p ≤ s.size ∧ (blOf s).drop p = r
theorem Rd.lt {w : World} {rb : Nat} {s : ByteArray} {r : List UInt8} (h : Rd w rb s r) : rb < w.heap.size := by obtain ⟨p, hb, _⟩ := h; exact hb.lt
theorem Rd.keep {w w' : World} {rb : Nat} {s : ByteArray} {r : List UInt8} (h : Rd w rb s r) (hk : w'.heap[rb]? = w.heap[rb]?) : Rd w' rb s r := by
  obtain ⟨p, hb, h1, h2⟩ := h; exact ⟨p, hk.trans hb, h1, h2⟩
/-- Where the reader stands. -/
def posR (s : ByteArray) (r : List UInt8) : Nat := s.size - r.length
theorem Rd.pos {w : World} {rb : Nat} {s : ByteArray} {r : List UInt8} (h : Rd w rb s r) : Blk w rb 126 #[.string s, .int .i64 (posR s r : Int)] ∧ posR s r ≤ s.size ∧ (blOf s).drop (posR s r) = r ∧ r.length ≤ s.size := by
  obtain ⟨p, hb, h1, h2⟩ := h
  have hl : r.length = s.size - p := by rw [← h2, List.length_drop, blOf_len]
  have e : posR s r = p := by unfold posR; omega
  rw [e]; exact ⟨hb, h1, h2, by omega⟩
theorem drop_cons {s : ByteArray} {p : Nat} (h : p < s.size) : (blOf s).drop p = s[p] :: (blOf s).drop (p + 1) := by
  rw [List.drop_eq_getElem_cons (by rw [blOf_len]; exact h)]; rfl
def wrongCh (p : Int) : List PanicEntry := [{ v := .iface 127 (.int .i64 p), recovered := false }]
set_option maxHeartbeats 1000000 in
theorem f_fail (rb p : Nat) (s : ByteArray) (w : World) (hb : Blk w rb 126 #[.string s, .int .i64 (p : Int)]) :
    Calls Tryz.prog 70 #[.pointer (some ⟨rb, 0, none⟩)] w fun e w' => e = .panicked (wrongCh p) ∧ w = w' := by
  have c1 := (hb.cell 1).trans (show _ = some (Value.int .i64 (p : Int)) from rfl)
  go_enter Tryz.func70, Tryz.ntmps70
  go_wp2_with fail
  exact ⟨rfl, rfl, rfl⟩
/-- How far the reader is from the end. -/
def farR (w : World) (rb n : Nat) : Nat := match w.cell? ⟨rb, 1, none⟩ with
  | some (.int _ p) => n - p.toNat
  | _ => 0
theorem farR_of {w : World} {rb n p : Nat} (h : w.cell? ⟨rb, 1, none⟩ = some (.int .i64 (p : Int))) : farR w rb n = n - p := by unfold farR; rw [h]; simp
def ReadPost (w : World) (rb : Nat) (s : ByteArray) (r : List UInt8) (e : Ending) (w' : World) : Prop := e = .returned (.tuple #[]) ∧ Rd w' rb s r ∧ w.grownBy w' (some rb)
theorem grown_drewN (w : World) (n : Nat) (row : Option Nat) : w.grownBy (w.drewN n) row := ⟨rfl, rfl, rfl, Nat.le_refl _, fun _ _ _ => rfl⟩
theorem space_cons_sp {c : UInt8} {q : List UInt8} (h : spB c = true) : spaceB (c :: q) = spaceB q := by unfold spaceB; rw [List.dropWhile_cons, if_pos h]
theorem u8_ne {c : UInt8} {n : Nat} (hn : n < 256) (h : c ≠ UInt8.ofNat n) : ((c.toNat : Int) == (n : Int)) = false := by
  rw [beq_eq_false_iff_ne]
  intro e
  apply h
  apply UInt8.toNat_inj.1
  rw [UInt8.toNat_ofNat_of_lt' (by simpa using hn)]; omega
theorem rd_step {wr : World} {rb p : Nat} {s : ByteArray} (hb : Blk wr rb 126 #[.string s, .int .i64 (p : Int)]) (q : Nat) : Blk ((wr.drewN q).setCell ⟨rb, 1, none⟩ (.int .i64 ((p : Int) + 1))) rb 126 #[.string s, .int .i64 ((p + 1 : Nat) : Int)] := (hb.drewN q).set_ 1 (.int .i64 ((p : Int) + 1))
theorem grown_set (w : World) (p : Addr) (v : Value) : w.grownBy (w.setCell p v) (some p.block) :=
  ⟨rfl, rfl, rfl, by simp [World.setCell], fun i _ hn => Below.heap_setCell w p v i (fun e => hn (by rw [e]))⟩
set_option maxRecDepth 100000 in
set_option maxHeartbeats 2000000 in
theorem f_space (rb : Nat) (s : ByteArray) (r : List UInt8) (w : World) (hr : Rd w rb s r) (hs : s.size ≤ 100000) :
    Calls Tryz.prog 68 #[.pointer (some ⟨rb, 0, none⟩)] w (ReadPost w rb s (spaceB r)) := by
  have HR := Lib.hid hr
  clear hr
  go_enter Tryz.func68, Tryz.ntmps68
  go_wp2_with fail
  go_loopw [5] (fun v5 wr => ∃ r', Rd wr rb s r' ∧ spaceB r' = spaceB r ∧ w.grownBy wr (some rb)) (fun _ wr => farR wr rb s.size)
  case atStart => exact ⟨r, HR.out, rfl, World.grownBy.refl _ _⟩
  case round =>
    obtain ⟨r', hrd, hsp, hg⟩ := hrel
    obtain ⟨p, hb, hp, hdr⟩ := hrd
    have c0 := (hb.cell 0).trans (show _ = some (Value.string s) from rfl)
    have c1 := (hb.cell 1).trans (show _ = some (Value.int .i64 (p : Int)) from rfl)
    have f1 := hb.frozen 1
    have HB := Lib.hid hb
    have HSP := Lib.hid hsp
    have HG := Lib.hid hg
    clear hb hsp hg
    have zp : (0 : Int) ≤ (p : Int) := by omega
    by_cases hlt : p < s.size
    · have hd := drop_cons hlt
      rw [hdr] at hd
      have q1 : (p : Int) < (s.size : Int) := by omega
      have q2 : decide ((p : Int) < (s.size : Int)) = true := by simpa using hlt
      have q3 : decide (p < s.size) = true := by simpa using hlt
      have HD := Lib.hid hd
      have HDR := Lib.hid hdr
      clear hd hdr
      by_cases h32 : s[p] = 32
      · have t1 : ((s[p].toNat : Int) == 32) = true := by rw [h32]; rfl
        have H32 := Lib.hid h32
        clear h32
        have HSPC : spB s[p] = true := by rw [H32.out]; rfl
        have HSPC := Lib.hid HSPC
        go_wp2_with fail
        go_quiet (fail)
        go_wp2_with fail
        go_roundw
        case measure =>
          rw [farR_of c1, farR_of (p := p + 1) (((rd_step HB.out _).cell 1).trans rfl)]; omega
        case rel =>
          refine ⟨_, ⟨p + 1, rd_step HB.out _, by omega, rfl⟩, ?_, HG.out.trans ((grown_drewN _ _ _).trans (grown_set _ _ _))⟩
          rw [← HSP.out, HD.out]; exact (space_cons_sp HSPC.out).symm
      · have t1 : ((s[p].toNat : Int) == 32) = false := u8_ne (n := 32) (by decide) h32
        by_cases h10 : s[p] = 10
        · have t2 : ((s[p].toNat : Int) == 10) = true := by rw [h10]; rfl
          have HSPC : spB s[p] = true := by rw [h10]; rfl
          have HSPC := Lib.hid HSPC
          clear h32 h10
          go_wp2_with fail
          go_quiet (fail)
          go_wp2_with fail
          go_roundw
          case measure =>
            rw [farR_of c1, farR_of (p := p + 1) (((rd_step HB.out _).cell 1).trans rfl)]; omega
          case rel =>
            refine ⟨_, ⟨p + 1, rd_step HB.out _, by omega, rfl⟩, ?_, HG.out.trans ((grown_drewN _ _ _).trans (grown_set _ _ _))⟩
            rw [← HSP.out, HD.out]; exact (space_cons_sp HSPC.out).symm
        · have t2 : ((s[p].toNat : Int) == 10) = false := u8_ne (n := 10) (by decide) h10
          have hsp0 : spB s[p] = false := by simp [spB, h32, h10]
          have HS0 := Lib.hid hsp0
          clear h32 h10 hsp0
          go_wp2_with fail
          go_quiet (fail)
          go_wp2_with fail
          go_end0
          refine ⟨rfl, ?_, HG.out.trans (grown_drewN _ _ _)⟩
          have e : spaceB r = r' := by rw [← HSP.out, HD.out]; exact space_stop (.inr HS0.out)
          rw [e]
          exact ⟨p, HB.out, hp, HDR.out⟩
    · have hpe : p = s.size := by omega
      have q1 : ¬ (p : Int) < (s.size : Int) := by omega
      have q2 : decide ((p : Int) < (s.size : Int)) = false := by simpa using hlt
      have q3 : decide (p < s.size) = false := by simpa using hlt
      have hr0 : r' = [] := by rw [← hdr]; exact List.drop_eq_nil_of_le (by rw [blOf_len]; omega)
      have HR0 := Lib.hid hr0
      have HDR := Lib.hid hdr
      clear hr0 hdr hpe
      go_wp2_with fail
      go_quiet (fail)
      go_wp2_with fail
      go_end0
      refine ⟨rfl, ?_, HG.out.trans (grown_drewN _ _ _)⟩
      have e : spaceB r = r' := by rw [← HSP.out, HR0.out]; rfl
      rw [e]
      exact ⟨p, HB.out, hp, HDR.out⟩
end Go.Proofs.YthibelndhcnifaaGreatDoor
