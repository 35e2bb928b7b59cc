/- Contracts: the reference's text of a term without parts (printed by gen_fmrx.py). Contracts: the reference's bytes of words and names of fields. -/
import Derived.Test.YthfmmememdlekaaGreatDoorP29
import Derived.Test.YthfmmememdlekaaGreatDoorP07
import Derived.Test.YthfmmememdlekaaGreatDoorShelfF
set_option linter.unusedVariables false
set_option linter.unusedSimpArgs false
namespace Go.Proofs.YthfmmememdlekaaGreatDoor
open Go.RowKit Num

set_option maxRecDepth 100000 in
set_option maxHeartbeats 4000000 in
theorem r_text_word (b off n c k : Nat) (tk tn ty : Int) (tf tt : ByteArray) (Aa : Option Addr) (na ca : Nat) (w : World) (hk : tk = 6 ∨ tk = 8) (hb : b < w.heap.size) (hkn : k < n) (hn : n ≤ 1000000) (hl : LibOk w) (hn0 : 0 ≤ tn) (hn1 : tn ≤ 100)
    (c0 : w.cell? ⟨b, off + k * 6, none⟩ = some (.int .i64 tk)) (c1 : w.cell? ⟨b, off + k * 6 + 1, none⟩ = some (.int .i64 tn)) (c2 : w.cell? ⟨b, off + k * 6 + 2, none⟩ = some (.int .i64 ty)) (c3 : w.cell? ⟨b, off + k * 6 + 3, none⟩ = some (.string tf))
    (c4 : w.cell? ⟨b, off + k * 6 + 4, none⟩ = some (.string tt)) (c5 : w.cell? ⟨b, off + k * 6 + 5, none⟩ = some (.slice Aa na ca)) :
    Calls Tryz.prog 35 #[.agg #[.slice (some ⟨b, off, none⟩) n c], .int .i64 (k : Int)] w (StrBel (nmK tk) w) := by
  have q2 : (0 : Int) ≤ (k : Int) := by omega
  have q3 : (k : Int) < (n : Int) := by omega
  have hb2 : ∀ o, Below w.heap.size w ((w.alloc (.cells #[.slice (some ⟨b, off, none⟩) n c] 25)).alloc o) := fun o => ((Below.refl _ _).alloc (Nat.le_refl _) _).alloc (by simp) _
  have hl2 : ∀ o, LibOk ((w.alloc (.cells #[.slice (some ⟨b, off, none⟩) n c] 25)).alloc o) := fun o => hl.later (hb2 o)
  have s1 : (bsOf (Lib.itoa tn)).size ≤ 3 := by rw [bsOf_data]; exact itoa_small tn hn0 hn1
  have HB2 := Lib.hid hb2
  have HL2 := Lib.hid hl2
  clear hb2 hl2 hl
  rcases hk with rfl | rfl
  all_goals
    go_enter Tryz.func35, Tryz.ntmps35
    go_wp2_with fail
    refine (i_Itoa tn _ (HL2.out _).tab (by omega) (by omega)).mono ?_
    rintro e wk ⟨rfl, hbk⟩
    obtain ⟨hcc, hff⟩ := bcellx hbk
    go_wp2_with fail
    go_ret
    refine ⟨?_, (HB2.out _).trans (hbk.mono (by simp; omega))⟩
    rfl
set_option maxRecDepth 100000 in
set_option maxHeartbeats 4000000 in
theorem r_text_num (b off n c k : Nat) (tk tn ty : Int) (tf tt : ByteArray) (Aa : Option Addr) (na ca : Nat) (w : World) (hk : tk = 3 ∨ tk = 4) (hb : b < w.heap.size) (hkn : k < n) (hn : n ≤ 1000000) (hl : LibOk w) (hn0 : 0 ≤ tn) (hn1 : tn ≤ 100)
    (c0 : w.cell? ⟨b, off + k * 6, none⟩ = some (.int .i64 tk)) (c1 : w.cell? ⟨b, off + k * 6 + 1, none⟩ = some (.int .i64 tn)) (c2 : w.cell? ⟨b, off + k * 6 + 2, none⟩ = some (.int .i64 ty)) (c3 : w.cell? ⟨b, off + k * 6 + 3, none⟩ = some (.string tf))
    (c4 : w.cell? ⟨b, off + k * 6 + 4, none⟩ = some (.string tt)) (c5 : w.cell? ⟨b, off + k * 6 + 5, none⟩ = some (.slice Aa na ca)) :
    Calls Tryz.prog 35 #[.agg #[.slice (some ⟨b, off, none⟩) n c], .int .i64 (k : Int)] w (StrBel (nmK tk ++ [32] ++ Lib.itoa tn) w) := by
  have q2 : (0 : Int) ≤ (k : Int) := by omega
  have q3 : (k : Int) < (n : Int) := by omega
  have hb2 : ∀ o, Below w.heap.size w ((w.alloc (.cells #[.slice (some ⟨b, off, none⟩) n c] 25)).alloc o) := fun o => ((Below.refl _ _).alloc (Nat.le_refl _) _).alloc (by simp) _
  have hl2 : ∀ o, LibOk ((w.alloc (.cells #[.slice (some ⟨b, off, none⟩) n c] 25)).alloc o) := fun o => hl.later (hb2 o)
  have s1 : (bsOf (Lib.itoa tn)).size ≤ 3 := by rw [bsOf_data]; exact itoa_small tn hn0 hn1
  have HB2 := Lib.hid hb2
  have HL2 := Lib.hid hl2
  clear hb2 hl2 hl
  rcases hk with rfl | rfl
  all_goals
    go_enter Tryz.func35, Tryz.ntmps35
    go_wp2_with fail
    refine (i_Itoa tn _ (HL2.out _).tab (by omega) (by omega)).mono ?_
    rintro e wk ⟨rfl, hbk⟩
    obtain ⟨hcc, hff⟩ := bcellx hbk
    go_wp2_with fail
    go_ret
    refine ⟨?_, (HB2.out _).trans (hbk.mono (by simp; omega))⟩
    exact congrArg (fun x : ByteArray => Ending.returned (.string x)) (by show bsOf _ ++ bsOf _ = _; rw [bsOf_app]; rfl)
set_option maxRecDepth 100000 in
set_option maxHeartbeats 4000000 in
theorem r_text_yrs (b off n c k : Nat) (tk tn ty : Int) (tf tt : ByteArray) (Aa : Option Addr) (na ca : Nat) (w : World) (hk : tk = 5) (hb : b < w.heap.size) (hkn : k < n) (hn : n ≤ 1000000) (hl : LibOk w) (hn0 : 0 ≤ tn) (hn1 : tn ≤ 100) (hy0 : 0 ≤ ty) (hy1 : ty ≤ 100) (s2 : (bsOf (Lib.itoa ty)).size ≤ 3)
    (c0 : w.cell? ⟨b, off + k * 6, none⟩ = some (.int .i64 tk)) (c1 : w.cell? ⟨b, off + k * 6 + 1, none⟩ = some (.int .i64 tn)) (c2 : w.cell? ⟨b, off + k * 6 + 2, none⟩ = some (.int .i64 ty)) (c3 : w.cell? ⟨b, off + k * 6 + 3, none⟩ = some (.string tf))
    (c4 : w.cell? ⟨b, off + k * 6 + 4, none⟩ = some (.string tt)) (c5 : w.cell? ⟨b, off + k * 6 + 5, none⟩ = some (.slice Aa na ca)) :
    Calls Tryz.prog 35 #[.agg #[.slice (some ⟨b, off, none⟩) n c], .int .i64 (k : Int)] w (StrBel (nmK 5 ++ [32] ++ Lib.itoa ty ++ [32] ++ ofB ++ [32] ++ Lib.itoa tn) w) := by
  have q2 : (0 : Int) ≤ (k : Int) := by omega
  have q3 : (k : Int) < (n : Int) := by omega
  have hb2 : ∀ o, Below w.heap.size w ((w.alloc (.cells #[.slice (some ⟨b, off, none⟩) n c] 25)).alloc o) := fun o => ((Below.refl _ _).alloc (Nat.le_refl _) _).alloc (by simp) _
  have hl2 : ∀ o, LibOk ((w.alloc (.cells #[.slice (some ⟨b, off, none⟩) n c] 25)).alloc o) := fun o => hl.later (hb2 o)
  have s1 : (bsOf (Lib.itoa tn)).size ≤ 3 := by rw [bsOf_data]; exact itoa_small tn hn0 hn1
  have HB2 := Lib.hid hb2
  have HL2 := Lib.hid hl2
  clear hb2 hl2 hl
  subst hk
  all_goals
    go_enter Tryz.func35, Tryz.ntmps35
    go_wp2_with fail
    refine (i_Itoa tn _ (HL2.out _).tab (by omega) (by omega)).mono ?_
    rintro e wk ⟨rfl, hbk⟩
    obtain ⟨hcc, hff⟩ := bcellx hbk
    go_wp2_with fail
    refine (i_Itoa ty _ (LibOk.tab (LibOk.later (HL2.out _) hbk)) (by omega) (by omega)).mono ?_
    rintro e wm ⟨rfl, hbm⟩
    go_wp2_with fail
    go_ret
    refine ⟨?_, (HB2.out _).trans ((hbk.mono (by simp; omega)).trans (hbm.mono (by have := (HB2.out (.cells #[] 0)).size; have := hbk.size; simp at *; omega)))⟩
    exact congrArg (fun x : ByteArray => Ending.returned (.string x)) (by show bsOf _ ++ bsOf _ ++ bsOf _ ++ bsOf _ = _; rw [bsOf_app, bsOf_app, bsOf_app]; congr 1; simp [nmK, nmB, ofB])
set_option maxRecDepth 100000 in
set_option maxHeartbeats 4000000 in
theorem r_text_says (b off n c k : Nat) (tk tn ty : Int) (tf tt : ByteArray) (Aa : Option Addr) (na ca : Nat) (w : World) (hk : tk = 7) (hb : b < w.heap.size) (hkn : k < n) (hn : n ≤ 1000000) (hl : LibOk w) (hn0 : 0 ≤ tn) (hn1 : tn ≤ 100) (hf : tf.size ≤ 1000) (hx : tt.size ≤ 1000)
    (c0 : w.cell? ⟨b, off + k * 6, none⟩ = some (.int .i64 tk)) (c1 : w.cell? ⟨b, off + k * 6 + 1, none⟩ = some (.int .i64 tn)) (c2 : w.cell? ⟨b, off + k * 6 + 2, none⟩ = some (.int .i64 ty)) (c3 : w.cell? ⟨b, off + k * 6 + 3, none⟩ = some (.string tf))
    (c4 : w.cell? ⟨b, off + k * 6 + 4, none⟩ = some (.string tt)) (c5 : w.cell? ⟨b, off + k * 6 + 5, none⟩ = some (.slice Aa na ca)) :
    Calls Tryz.prog 35 #[.agg #[.slice (some ⟨b, off, none⟩) n c], .int .i64 (k : Int)] w (StrBel (nmK 7 ++ [32] ++ blOf tf ++ [32, 34] ++ blOf tt ++ [34, 32] ++ ofB ++ [32] ++ Lib.itoa tn) w) := by
  have q2 : (0 : Int) ≤ (k : Int) := by omega
  have q3 : (k : Int) < (n : Int) := by omega
  have hb2 : ∀ o, Below w.heap.size w ((w.alloc (.cells #[.slice (some ⟨b, off, none⟩) n c] 25)).alloc o) := fun o => ((Below.refl _ _).alloc (Nat.le_refl _) _).alloc (by simp) _
  have hl2 : ∀ o, LibOk ((w.alloc (.cells #[.slice (some ⟨b, off, none⟩) n c] 25)).alloc o) := fun o => hl.later (hb2 o)
  have s1 : (bsOf (Lib.itoa tn)).size ≤ 3 := by rw [bsOf_data]; exact itoa_small tn hn0 hn1
  have HB2 := Lib.hid hb2
  have HL2 := Lib.hid hl2
  clear hb2 hl2 hl
  subst hk
  all_goals
    go_enter Tryz.func35, Tryz.ntmps35
    go_wp2_with fail
    refine (i_Itoa tn _ (HL2.out _).tab (by omega) (by omega)).mono ?_
    rintro e wk ⟨rfl, hbk⟩
    obtain ⟨hcc, hff⟩ := bcellx hbk
    go_wp2_with fail
    go_ret
    refine ⟨?_, (HB2.out _).trans (hbk.mono (by simp; omega))⟩
    exact congrArg (fun x : ByteArray => Ending.returned (.string x)) (by rw [← bsOf_blOf tf, ← bsOf_blOf tt]; show bsOf _ ++ bsOf _ ++ bsOf _ ++ bsOf _ ++ bsOf _ ++ bsOf _ = _; rw [bsOf_app, bsOf_app, bsOf_app, bsOf_app, bsOf_app]; congr 1; simp [nmK, nmB, ofB, blOf_bsOf])
end Go.Proofs.YthfmmememdlekaaGreatDoor
namespace Go.Proofs.YthfmmememdlekaaGreatDoor
open Go.RowKit Num

set_option maxHeartbeats 1000000 in
theorem r_inner (n : Nat) (w : World) (hn : n < 256) :
    Calls Tryz.prog 63 #[.int .u8 (n : Int)] w fun e w' => e = .returned (.bool (inWN n)) ∧ w = w' := by
  by_cases h1 : 97 ≤ n
  · by_cases h2 : n ≤ 122
    · have e : inWN n = true := by simp [inWN, lowN, h1, h2]
      rw [e]
      go_enter Tryz.func63, Tryz.ntmps63
      go_wp2_with fail
      go_ret
      exact ⟨rfl, rfl⟩
    · have e : inWN n = false := by
        have q : ¬ n ≤ 57 := by omega
        have q2 : ¬ n = 95 := by omega
        simp [inWN, lowN, h2, q, q2]
      have c1 : (48 : Int) ≤ (n : Int) := by omega
      have c2 : ¬ (n : Int) ≤ 57 := by omega
      have c3 : ¬ (n : Int) = 95 := by omega
      have c3b : ((n : Int) == 95) = false := by simp; omega
      have c4 : ¬ (n : Int) ≤ 122 := by omega
      rw [e]
      go_enter Tryz.func63, Tryz.ntmps63
      go_wp2_with fail
      go_ret
      exact ⟨rfl, rfl⟩
  · have z1 : ¬ (97 : Int) ≤ (n : Int) := by omega
    by_cases h3 : n = 95
    · subst h3
      go_enter Tryz.func63, Tryz.ntmps63
      go_wp2_with fail
      go_ret
      exact ⟨rfl, rfl⟩
    · have z3 : ¬ (n : Int) = 95 := by omega
      have z3b : ((n : Int) == 95) = false := by simp; omega
      by_cases h4 : 48 ≤ n
      · by_cases h5 : n ≤ 57
        · have e : inWN n = true := by simp [inWN, h4, h5]
          rw [e]
          go_enter Tryz.func63, Tryz.ntmps63
          go_wp2_with fail
          go_ret
          exact ⟨rfl, rfl⟩
        · have e : inWN n = false := by simp [inWN, lowN, h1, h5, h3]
          have z5 : ¬ (n : Int) ≤ 57 := by omega
          rw [e]
          go_enter Tryz.func63, Tryz.ntmps63
          go_wp2_with fail
          go_ret
          exact ⟨rfl, rfl⟩
      · have e : inWN n = false := by simp [inWN, lowN, h1, h4, h3]
        have z4 : ¬ (48 : Int) ≤ (n : Int) := by omega
        rw [e]
        go_enter Tryz.func63, Tryz.ntmps63
        go_wp2_with fail
        go_ret
        exact ⟨rfl, rfl⟩
/-- Go's table of spaces is as the library lays it. -/
def SpcOk (w : World) : Prop := Lib.TabIs Tryz.prog w "strings.asciiSpace" .u8 Lib.asciiSpaceTab
theorem spc_below {w w' : World} (h : SpcOk w) (hg : 0 < w.heap.size) (hb : Below w.heap.size w w') : SpcOk w' :=
  var?_below hb (by kernel_rfl) hg h
def resT : List UInt8 := [97, 108, 108, 32, 97, 110, 121, 32, 114, 101, 112, 111, 114, 116, 101, 114, 115, 32, 100, 101, 112, 97, 114, 116, 109, 101, 110, 116, 115, 32, 121, 101, 97, 114, 115, 32, 119, 105, 116, 104, 105, 110, 32, 110, 111, 116, 102, 105, 114, 115, 116, 32, 115, 97, 121, 115, 32, 97, 108, 119, 97, 121, 115, 32, 111, 102]
theorem res_fields : Lib.fields resT = resB := by decide
theorem res_ascii : ∀ (j : Nat) b, resT[j]? = some b → b.toNat < 128 := by
  intro j b h
  have : ∀ b ∈ resT, b.toNat < 128 := by decide
  exact this b (List.mem_of_getElem? h)
theorem r_words (w : World) (h : SpcOk w) : Calls Tryz.prog 64 #[.string (bsOf resT)] w fun e w' => ∃ v, e = .returned v ∧ StrsAt' w' v resB ∧ Below w.heap.size w w' := by
  refine (Tryz.strings_Fields (bsOf resT) w (by decide) (by simpa [bsOf] using res_ascii) h).mono ?_
  rintro e w' ⟨rfl, rfl⟩
  have e0 : (bsOf resT).data.toList = resT := by simp [bsOf]
  rw [e0, res_fields]
  refine ⟨_, rfl, ⟨w.heap.size, 0, _, _, rfl, rfl, by simp, fun k hk => ?_⟩, (Below.refl _ _).alloc (Nat.le_refl _) _⟩
  have hk' : k < 10 := hk
  have hb := Blk.new w 9 ((resB.map fun l => Value.string ⟨l.toArray⟩).toArray)
  refine (hb.cell (0 + k)).trans ?_
  have : k = 0 ∨ k = 1 ∨ k = 2 ∨ k = 3 ∨ k = 4 ∨ k = 5 ∨ k = 6 ∨ k = 7 ∨ k = 8 ∨ k = 9 := by omega
  rcases this with rfl | rfl | rfl | rfl | rfl | rfl | rfl | rfl | rfl | rfl <;> rfl
set_option maxRecDepth 100000 in
set_option maxHeartbeats 1000000 in
theorem r_Name (s : ByteArray) (w : World) (hs : s.size ≤ 4294967296) (hsp : SpcOk w) :
    Calls Tryz.prog 29 #[.string s] w (BoolBel (nameB (blOf s)) w) := by
  by_cases h0 : s.size = 0
  · have e : nameB (blOf s) = false := by unfold nameB; rw [blOf_len]; simp [h0]
    obtain rfl := (show s = ⟨#[]⟩ from blOf_inj (List.eq_nil_of_length_eq_zero (by rw [blOf_len]; exact h0)))
    rw [e]
    clear e h0 hs
    go_enter Tryz.func29, Tryz.ntmps29
    go_wp2_with fail
    go_ret
    exact ⟨rfl, Below.refl _ _⟩
  · have hpos : 0 < s.size := by omega
    have q1 : ¬ (s.size : Int) < 1 := by omega
    by_cases h32 : s.size ≤ 32
    · have q32 : ¬ (32 : Int) < (s.size : Int) := by omega
      have g0 := blOf_get s 0 hpos
      by_cases hlo : (s[0]).toNat < 97
      · have e : nameB (blOf s) = false := by unfold nameB; rw [headD_get, g0, lowB_n]; simp [lowN]; intro _ _ h; omega
        have q97 : ((s[0]).toNat : Int) < 97 := by omega
        have HE := Lib.hid e
        clear e g0 h0
        go_enter Tryz.func29, Tryz.ntmps29
        go_wp2_with fail
        go_ret
        exact ⟨by rw [HE.out]; rfl, Below.refl _ _⟩
      · have q97 : ¬ ((s[0]).toNat : Int) < 97 := by omega
        by_cases hhi : 122 < (s[0]).toNat
        · have e : nameB (blOf s) = false := by unfold nameB; rw [headD_get, g0, lowB_n]; simp [lowN]; intro _ _ h; omega
          have q122 : (122 : Int) < ((s[0]).toNat : Int) := by omega
          have HE := Lib.hid e
          clear e g0 h0
          go_enter Tryz.func29, Tryz.ntmps29
          go_wp2_with fail
          go_ret
          exact ⟨by rw [HE.out]; rfl, Below.refl _ _⟩
        · have q122 : ¬ (122 : Int) < ((s[0]).toNat : Int) := by omega
          have ht : nameB (blOf s) = ((blOf s).all inWB && !resB.contains (blOf s)) := by
            have hl : lowN (s[0]).toNat = true := by simp [lowN]; omega
            unfold nameB
            rw [headD_get, g0, lowB_n, hl, blOf_len]
            have h1 : 1 ≤ s.size := hpos
            simp only [h32, h1, decide_true, Bool.true_and, Bool.and_comm]
          have HT := Lib.hid ht
          have HSP := Lib.hid hsp
          clear ht g0 h0 hsp
          go_enter Tryz.func29, Tryz.ntmps29
          go_wp2_with fail
          go_loop [3, 26] (fun _ i => ∃ k : Nat, k ≤ s.size ∧ i = .int .i64 k ∧ ∀ j, j < k → inWB ((blOf s).getD j 0) = true) (fun _ i => s.size - (intOf i).toNat)
          case atStart => exact ⟨0, by omega, rfl, fun j hj => absurd hj (Nat.not_lt_zero _)⟩
          case round =>
            obtain ⟨k, hk, rfl, hne⟩ := hrel
            have HNE := Lib.hid hne
            clear hne
            by_cases hlt : k < s.size
            · have gk := blOf_get s k hlt
              have GK := Lib.hid gk
              clear gk
              by_cases hi : inWN (s[k]).toNat = true
              · have HI := Lib.hid hi
                clear hi
                go_wp2_with (go_at_call 63; refine (r_inner _ _ (UInt8.toNat_lt _)).mono ?_; rintro e w' ⟨rfl, rfl⟩; rw [HI.out])
                go_round
                case rel => exact ⟨k + 1, by omega, by go_num, fun j hj => by
                  rcases Nat.lt_or_ge j k with h | h
                  · exact HNE.out j h
                  · rw [show j = k by omega, GK.out, inWB_n]; exact HI.out⟩
                case measure => simp [intOf]; omega
              · have hi' : inWN (s[k]).toNat = false := by simpa using hi
                have HI := Lib.hid hi'
                clear hi hi'
                go_wp2_with (go_at_call 63; refine (r_inner _ _ (UInt8.toNat_lt _)).mono ?_; rintro e w' ⟨rfl, rfl⟩; rw [HI.out])
                go_ret
                refine ⟨?_, Below.refl _ _⟩
                rw [HT.out, not_all_of (j := k) (by rw [blOf_len]; exact hlt) (by rw [GK.out, inWB_n]; exact HI.out)]
                rfl
            · have hkn : k = s.size := by omega
              have hj0 : ¬ (k : Int) < (s.size : Int) := by omega
              have ha := all_of (l := blOf s) (p := inWB) (fun j hj => HNE.out j (by rw [blOf_len] at hj; rw [hkn]; exact hj))
              have ht2 : nameB (blOf s) = !resB.contains (blOf s) := by rw [HT.out, ha, Bool.true_and]
              have HT2 := Lib.hid ht2
              clear hkn ht2 ha
              go_wp2_with (go_at_call 64; go_loud (refine (r_words _ HSP.out).mono ?_; rintro e w1 ⟨v, rfl, ⟨g, off, n, c, rfl, hn, hg, hc⟩, hb⟩; obtain rfl : n = 10 := hn; have HC := Lib.hid hc; clear hc))
              go_loop [5, 37] (fun _ i => ∃ k : Nat, k ≤ 10 ∧ i = .int .i64 k ∧ ∀ j, j < k → resB.getD j [] ≠ blOf s) (fun _ i => 10 - (intOf i).toNat)
              case atStart => exact ⟨0, by omega, rfl, fun j hj => absurd hj (Nat.not_lt_zero _)⟩
              case round =>
                obtain ⟨k, hk, rfl, hne⟩ := hrel
                have HNE := Lib.hid hne
                clear hne
                by_cases hlt : k < 10
                · have hcell := HC.out k hlt
                  obtain ⟨x, hx⟩ : ∃ x, resB.getD k [] = x := ⟨_, rfl⟩
                  rw [hx] at hcell
                  have HX := Lib.hid hx
                  clear hx
                  by_cases hs : x = blOf s
                  · have e1 : ((bsOf x).toList == s.toList) = true := seq_true (by rw [hs, bsOf_blOf])
                    have hin : resB.contains (blOf s) = true := by
                      rw [← hs, ← HX.out]
                      exact List.contains_iff_mem.2 (by rw [List.getD_eq_getElem?_getD, List.getElem?_eq_getElem (show k < resB.length from hlt)]; exact List.getElem_mem _)
                    have HI := Lib.hid hin
                    clear hs hin
                    go_wp2_with fail
                    go_ret
                    exact ⟨by rw [HT2.out, HI.out]; rfl, hb⟩
                  · have e1 : ((bsOf x).toList == s.toList) = false := seq_false (fun h => hs (by rw [blOf_bsOf] at h; exact h))
                    have HS := Lib.hid hs
                    clear hs
                    go_wp2_with fail
                    go_round
                    case rel => exact ⟨k + 1, by omega, by go_num, fun j hj => by
                      rcases Nat.lt_or_ge j k with h | h
                      · exact HNE.out j h
                      · rw [show j = k by omega, HX.out]; exact HS.out⟩
                    case measure => simp [intOf]; omega
                · have hkn : k = 10 := by omega
                  have hj0 : ¬ (k : Int) < 10 := by omega
                  have hin : resB.contains (blOf s) = false := by
                    rw [Bool.eq_false_iff]
                    intro h
                    obtain ⟨j, hj, e⟩ := List.getElem_of_mem (List.contains_iff_mem.1 h)
                    have h1 := HNE.out j (by rw [hkn]; exact hj)
                    rw [List.getD_eq_getElem?_getD, List.getElem?_eq_getElem hj] at h1
                    exact h1 e
                  have HI := Lib.hid hin
                  clear hin
                  subst hkn
                  go_wp2_with fail
                  go_ret
                  exact ⟨by rw [HT2.out, HI.out]; rfl, hb⟩
    · have e : nameB (blOf s) = false := by unfold nameB; rw [blOf_len]; simp [h32]
      have q32 : (32 : Int) < (s.size : Int) := by omega
      have HE := Lib.hid e
      clear e h0
      go_enter Tryz.func29, Tryz.ntmps29
      go_wp2_with fail
      go_ret
      exact ⟨by rw [HE.out]; rfl, Below.refl _ _⟩
end Go.Proofs.YthfmmememdlekaaGreatDoor
