/- The reference's sum. Contracts: the sum of two strings. Words for memory: forms. Plain facts: which forms are valid. -/
import Derived.Test.YtgbhaaongmlpkaaGreatDoorX08
import Derived.Deep.MidRow
import Derived.Deep.WholeRow
import Derived.Test.YtgbhaaongmlpkaaGreatDoorX07
import Derived.Test.YtgbhaaongmlpkaaGreatDoorX09
import Derived.Test.YtgbhaaongmlpkaaGreatDoorX06
import Derived.Test.YtgbhaaongmlpkaaGreatDoorX05
import Derived.Test.YtgbhaaongmlpkaaGreatDoorX04
set_option linter.unusedVariables false
set_option linter.unusedSimpArgs false
namespace Go.Proofs.YtgbhaaongmlpkaaGreatDoor
open Go.RowKit Num

theorem rf_first (w : World) :
    Calls Tryz.prog 72 #[] w fun r w' => r = .returned (.agg #[.int .u32 (bOf 0), .int .u32 (bOf 1), .int .u32 (bOf 2), .int .u32 (bOf 3), .int .u32 (bOf 4), .int .u32 (bOf 5), .int .u32 (bOf 6), .int .u32 (bOf 7)]) ∧ Below w.heap.size w w' := by
  go_enter Tryz.func72, Tryz.ntmps72
  go_wp2_with fail
  exact bodyPost_ret (v := .agg (shaB.map (Value.int .u32)).toArray) (by simp [results, Tryz.results72, go_sem, shaB]) rfl ⟨rfl, (Below.refl _ _).alloc (Nat.le_refl _) _⟩
def shaKC : Array Value := (shaK.map (Value.int .u32)).toArray
theorem shaKC_get (i : Nat) (hi : i < 64) : shaKC[i]? = some (.int .u32 (kOf i)) := map_get shaK i hi

theorem shaKC_size : shaKC.size = 64 := by rfl
theorem shaKC_one : shaKC.all (·.oneCell') = true := by kernel_rfl
theorem const_world (w : World) (old : Array Value) (T : TypeId) (W : World) (h : World.setRow (World.alloc w (.cells old T)) w.heap.size shaKC = W) : Below w.heap.size w W ∧ W.rangeAt w.heap.size 0 shaKC.toList := by
  subst h
  have hrow := setRow_heap _ w.heap.size _ shaKC _ _ (heap_alloc_new w (.cells old T))
  exact ⟨⟨rfl, rfl, rfl, by simp, fun i hi => by rw [setRow_other _ _ i _ (by omega)]; exact heap_alloc_old w _ hi⟩, fun j v hv => by
    rw [Nat.zero_add, cell_of_row _ _ j _ _ _ hrow]; simpa using hv⟩
set_option maxRecDepth 100000 in
set_option maxHeartbeats 2000000 in
theorem rf_constants (w : World) :
    Calls Tryz.prog 73 #[] w fun r w' => r = .returned (.agg shaKC) ∧ Below w.heap.size w w' := by
  go_enter Tryz.func73, Tryz.ntmps73
  go_upto_region 1 with (fail)
  apply wp_region_lit
  refine wpList_build rfl _ _ rfl (by kernel_rfl) ?_
  refine wpList_store_row rfl _ _ _ rfl w.heap.size shaKC rfl (by kernel_rfl) _ _ (heap_alloc_new w _) (by kernel_rfl) (by kernel_rfl) (by kernel_rfl) ?_
  generalize hW : World.setRow (World.alloc w _) w.heap.size shaKC = W
  obtain ⟨hb, hrng⟩ := const_world w _ _ W hW
  have hres := run_loadVar_mid (P := Tryz.prog) W w.heap.size 0 120 shaKC.toList _ hrng Tryz.underlying120 rfl (by kernel_rfl)
  generalize hT : Act.put _ _ _ = T
  have hd : T.defers = [] := by rw [← hT]; rfl
  have h0 : T.tmps.getD 0 undef = .pointer (some ⟨w.heap.size, 0, none⟩) := by rw [← hT]; rfl
  have h0' : T.tmps[0]?.getD undef = .pointer (some ⟨w.heap.size, 0, none⟩) := by simpa using h0
  have HB := Lib.hid hb
  clear hT hW hb hrng
  rw [show shaKC.toList.toArray = shaKC from rfl] at hres
  go_wp2_with fail
  refine bodyPost_ret (v := .agg shaKC) ?_ hd ⟨rfl, HB.out⟩
  simp [results, Tryz.results73, h0', hres, asAddr]

theorem index8r (r : Nat → Int) (t : Nat) (ht : t < 8) (W : World) : (Instr.index 112 (.agg #[.int .u32 (r 0), .int .u32 (r 1), .int .u32 (r 2), .int .u32 (r 3), .int .u32 (r 4), .int .u32 (r 5), .int .u32 (r 6), .int .u32 (r 7)]) (.int .i64 (t : Int))).run Tryz.prog W = .ok (.int .u32 (r t)) W := by
  have : t = 0 ∨ t = 1 ∨ t = 2 ∨ t = 3 ∨ t = 4 ∨ t = 5 ∨ t = 6 ∨ t = 7 := by omega
  rcases this with rfl | rfl | rfl | rfl | rfl | rfl | rfl | rfl <;> (clear ht; show Sem.run Tryz.prog _ W = Result.ok _ W; kernel_rfl)
/-- The bytes of the first words, as cells. -/
def outC (f : Nat → Int) (t : Nat) : List Value := (List.range (4 * t)).map fun i => .int .u8 (f (i / 4) / ((2 ^ (24 - 8 * (i % 4)) : Nat) : Int) % 256)
theorem outC_next (f : Nat → Int) (t : Nat) : outC f (t + 1) = outC f t ++ [.int .u8 (f t / 16777216 % 256), .int .u8 (f t / 65536 % 256), .int .u8 (f t / 256 % 256), .int .u8 (f t % 256)] := by
  unfold outC
  rw [show 4 * (t + 1) = 4 * t + 1 + 1 + 1 + 1 by omega]
  simp only [List.range_succ, List.map_append, List.map_cons, List.map_nil, List.append_assoc, List.cons_append, List.nil_append]
  rw [show 4 * t / 4 = t by omega, show (4 * t + 1) / 4 = t by omega, show (4 * t + 1 + 1) / 4 = t by omega, show (4 * t + 1 + 1 + 1) / 4 = t by omega, show 4 * t % 4 = 0 by omega, show (4 * t + 1) % 4 = 1 by omega, show (4 * t + 1 + 1) % 4 = 2 by omega, show (4 * t + 1 + 1 + 1) % 4 = 3 by omega]
  simp

set_option maxRecDepth 100000 in
set_option maxHeartbeats 2000000 in
theorem rf_Sum (s : ByteArray) (w : World) (hs : s.size < 4294967296) :
    Calls Tryz.prog 55 #[.string s] w fun e w' => e = .returned (.string (shaOf s)) ∧ Below w.heap.size w w' := by
  obtain ⟨mr, hr1, hr2, hr3, hr4⟩ := rest_size s
  obtain ⟨KC, hKC⟩ : ∃ KC, KC = shaKC := ⟨_, rfl⟩
  have hkg : ∀ i, i < 64 → KC[i]? = some (.int .u32 (kOf i)) := fun i hi => by rw [hKC]; exact shaKC_get i hi
  have hks : KC.size = 64 := by rw [hKC]; rfl
  have hk1 : KC.all (·.oneCell') = true := by rw [hKC]; exact shaKC_one
  have hkc := fun W => rf_constants W
  rw [← hKC] at hkc
  have HKG := Lib.hid hkg
  have HKS := Lib.hid hks
  have HK1 := Lib.hid hk1
  have HKC := Lib.hid hkc
  have HR2 := Lib.hid hr2
  clear hkg hks hk1 hkc hKC hr1 hr2
  go_enter Tryz.func55, Tryz.ntmps55
  go_wp2_with fail
  refine (rf_first _).mono ?_
  rintro e w1 ⟨rfl, hb1⟩
  have s1 := hb1.size
  go_wp2_with fail
  refine (HKC.out _).mono ?_
  rintro e w2 ⟨rfl, hb2⟩
  have s2 := hb2.size
  go_wp2_with fail
  refine (rf_pad s _ hs).mono ?_
  rintro e w3 ⟨rfl, hb3⟩
  have s3 := hb3.size
  have hks := HKS.out
  have hst : ∀ (X : Obj) (c : Array Value), c.size = 64 → Sem.run Tryz.prog (storeCells ⟨w3.heap.size + 1, 0, none⟩ KC.toList) ((w3.alloc X).alloc (.cells c 120)) = .ok () ((w3.alloc X).alloc (.cells KC 120)) := fun X c hc => by
    have := run_storeCells_new (P := Tryz.prog) (w3.alloc X) 120 c KC (by rw [hks]; kernel_rfl) (by rw [hc, hks]) HK1.out
    simpa using this
  go_wp2_with fail
  have hH : Arr ((w3.alloc (.cells #[.int .u32 (bOf 0), .int .u32 (bOf 1), .int .u32 (bOf 2), .int .u32 (bOf 3), .int .u32 (bOf 4), .int .u32 (bOf 5), .int .u32 (bOf 6), .int .u32 (bOf 7)] 112)).alloc (.cells KC 120)) w3.heap.size 8 (shaSt (padS s) 0) := (alloc8_arr w3 bOf _).alloc (by simp) _
  have hK : Arr ((w3.alloc (.cells #[.int .u32 (bOf 0), .int .u32 (bOf 1), .int .u32 (bOf 2), .int .u32 (bOf 3), .int .u32 (bOf 4), .int .u32 (bOf 5), .int .u32 (bOf 6), .int .u32 (bOf 7)] 112)).alloc (.cells KC 120)) (w3.heap.size + 1) 64 kOf := (allocK_arr (w3.alloc _) kOf 64 KC HKG.out _).at (by simp)
  have hbw : Below w.heap.size w ((w3.alloc (.cells #[.int .u32 (bOf 0), .int .u32 (bOf 1), .int .u32 (bOf 2), .int .u32 (bOf 3), .int .u32 (bOf 4), .int .u32 (bOf 5), .int .u32 (bOf 6), .int .u32 (bOf 7)] 112)).alloc (.cells KC 120)) :=
    ((((hb1.trans (hb2.mono s1)).trans (hb3.mono (by omega))).alloc (by omega) _).alloc (by simp; omega) _)
  have HH0 := Lib.hid hH
  have HK0 := Lib.hid hK
  have HB0 := Lib.hid hbw
  clear hH hK hbw hb1 hb2 hb3 hst hks
  have hMs : (padS s).size = 64 * (s.size / 64 + mr) := HR2.out
  have hMle : (padS s).size < 8589934592 := by omega
  have hsha : shaOf s = strOfNums (outL (shaSt (padS s) ((padS s).size / 64))) := rfl
  have HSHA := Lib.hid hsha
  clear hsha
  generalize padS s = P at *
  generalize s.size / 64 + mr = M at *
  have HMS := Lib.hid hMs
  clear hMs HR2 hr3 hr4
  go_loopw [6] (fun i wr => ∃ m : Nat, m ≤ M ∧ i = .int .i64 (64 * (m : Int)) ∧ Below w.heap.size w wr ∧ w3.heap.size + 1 < wr.heap.size ∧ Arr wr w3.heap.size 8 (shaSt P m) ∧ Arr wr (w3.heap.size + 1) 64 kOf) (fun i _ => (64 * M - (intOf i).toNat))
  case atStart => exact ⟨0, by omega, rfl, HB0.out, by simp, HH0.out, HK0.out⟩
  case round =>
    clear HH0 HK0 HB0
    obtain ⟨m, hm, rfl, hbl, hsz, hh, hk⟩ := hrel
    have HH := Lib.hid hh
    have HK := Lib.hid hk
    have HB := Lib.hid hbl
    have hPs := HMS.out
    by_cases hl : m < M
    · have hlt : 64 * (m : Int) < (P.size : Int) := by omega
      have q0 : (0 : Int) ≤ 64 * (m : Int) := by omega
      have q1 : 64 * (m : Int) ≤ 64 * (m : Int) + 64 := by omega
      have q2 : 64 * (m : Int) + 64 ≤ (P.size : Int) := by omega
      have q3 : (64 * (m : Int)).toNat = 64 * m := by omega
      have q4 : (64 * (m : Int) + 64).toNat = 64 * m + 64 := by omega
      have q5 : IntKind.i64.wrap (64 * (m : Int) + 64) = 64 * (m : Int) + 64 := IntWalk.i64_in _ ⟨by omega, by omega⟩
      have q6 : (0 : Int) ≤ 64 * (m : Int) + 64 := by omega
      have hxs : 64 ≤ (P.extract (64 * m) (64 * m + 64)).size := by rw [ByteArray.size_extract]; omega
      have ES : compress kOf (shaSt P m) (P.extract (64 * m) (64 * m + 64)) = shaSt P (m + 1) := shaSt_next P _ m (by omega) (fun i hi => by rw [byteAt_extract P (64 * m) (64 * m + 64) i (by omega) (by omega)])
      have HES := Lib.hid ES
      clear ES hPs hbl hh hk
      obtain ⟨f, hf⟩ : ∃ f, shaSt P m = f := ⟨_, rfl⟩
      rw [hf] at HH HES
      have hcell : ∀ i, i < 8 → wr.cell? ⟨w3.heap.size, i, none⟩ = some (.int .u32 (f i)) := HH.out.cell
      have hlive : ∀ i, i < 8 → wr.frozen? ⟨w3.heap.size, i, none⟩ = false := HH.out.live
      have MK : Hid (∀ W, Below wr.heap.size wr W → (W.cell? ⟨w3.heap.size, 0, none⟩ = some (.int .u32 (f 0)) ∧ W.cell? ⟨w3.heap.size, 1, none⟩ = some (.int .u32 (f 1)) ∧ W.cell? ⟨w3.heap.size, 2, none⟩ = some (.int .u32 (f 2)) ∧ W.cell? ⟨w3.heap.size, 3, none⟩ = some (.int .u32 (f 3)) ∧ W.cell? ⟨w3.heap.size, 4, none⟩ = some (.int .u32 (f 4)) ∧ W.cell? ⟨w3.heap.size, 5, none⟩ = some (.int .u32 (f 5)) ∧ W.cell? ⟨w3.heap.size, 6, none⟩ = some (.int .u32 (f 6)) ∧ W.cell? ⟨w3.heap.size, 7, none⟩ = some (.int .u32 (f 7))) ∧ Hid (Below wr.heap.size wr W)) := Lib.hid (fun W hb => by
        have := HH.out.below hb (by omega)
        exact ⟨⟨this.cell 0 (by omega), this.cell 1 (by omega), this.cell 2 (by omega), this.cell 3 (by omega), this.cell 4 (by omega), this.cell 5 (by omega), this.cell 6 (by omega), this.cell 7 (by omega)⟩, Lib.hid hb⟩)
      have RK : Hid (∀ W, Below wr.heap.size wr W → W.rangeAt (w3.heap.size + 1) 0 KC.toList) := Lib.hid (fun W hb j v hv => by
        have hj : j < 64 := by have := (List.getElem?_eq_some_iff.1 hv).1; rw [Array.length_toList, HKS.out] at this; exact this
        rw [Nat.zero_add, (HK.out.below hb (by omega)).cell j hj, ← HKG.out j hj, ← hv, Array.getElem?_toList])
      clear hcell hlive hf
      go_upto_region 5 with (fail)
      refine wp_region_last_lit _ _ (fun W => (W.cell? ⟨w3.heap.size, 0, none⟩ = some (.int .u32 (f 0)) ∧ W.cell? ⟨w3.heap.size, 1, none⟩ = some (.int .u32 (f 1)) ∧ W.cell? ⟨w3.heap.size, 2, none⟩ = some (.int .u32 (f 2)) ∧ W.cell? ⟨w3.heap.size, 3, none⟩ = some (.int .u32 (f 3)) ∧ W.cell? ⟨w3.heap.size, 4, none⟩ = some (.int .u32 (f 4)) ∧ W.cell? ⟨w3.heap.size, 5, none⟩ = some (.int .u32 (f 5)) ∧ W.cell? ⟨w3.heap.size, 6, none⟩ = some (.int .u32 (f 6)) ∧ W.cell? ⟨w3.heap.size, 7, none⟩ = some (.int .u32 (f 7))) ∧ Hid (Below wr.heap.size wr W)) (by kernel_rfl) rfl (by kernel_rfl) (MK.out _ (Below.refl _ _).drew) (fun hHeld => ?_)
      simp only [List.dropLast]
      refine wpAnyH_take (i := 0) (v := ?_) rfl (by kernel_rfl) (by kernel_rfl) (by kernel_rfl) (fun _ _ _ h => h) (Or.inl ⟨by rfl, ?_⟩) (by assumption) ?_
      rotate_left
      · (intro w hSw; (try dsimp only at hSw); go_simp; try (with_reducible rfl))
      try simp only [Act.put, List.setIfInBounds_toArray, List.set_cons_zero, List.set_cons_succ]
      refine wpAnyH_take (i := 1) (v := .agg KC.toList.toArray) rfl (by kernel_rfl) (by kernel_rfl) (by kernel_rfl) (fun _ _ _ h => h) ?yy (by assumption) ?_
      case yy => exact yieldsIf_load_mid (by rfl) _ _ rfl _ _ rfl KC.toList _ (fun W hW => RK.out W hW.2.out) Tryz.underlying120 rfl (by rw [Array.length_toList, HKS.out]; kernel_rfl)
      rw [show KC.toList.toArray = KC from by simp]
      try simp only [Act.put, List.setIfInBounds_toArray, List.set_cons_zero, List.set_cons_succ]
      refine wpAnyH_take (i := 2) (v := ?_) rfl (by kernel_rfl) (by kernel_rfl) (by kernel_rfl) (fun _ _ _ h => h) (Or.inl ⟨by rfl, ?_⟩) (by assumption) ?_
      rotate_left
      · (intro w hSw; (try dsimp only at hSw); go_simp; try (with_reducible rfl))
      try simp only [Act.put, List.setIfInBounds_toArray, List.set_cons_zero, List.set_cons_succ]
      refine wpAnyH_take (i := 3) (v := ?_) rfl (by kernel_rfl) (by kernel_rfl) (by kernel_rfl) (fun _ _ _ h => h) (Or.inl ⟨by rfl, ?_⟩) (by assumption) ?_
      rotate_left
      · (intro w hSw; (try dsimp only at hSw); go_simp; try (with_reducible rfl))
      try simp only [Act.put, List.setIfInBounds_toArray, List.set_cons_zero, List.set_cons_succ]
      refine wpAnyH_take (i := 4) (v := ?_) rfl (by kernel_rfl) (by kernel_rfl) (by kernel_rfl) (fun _ _ _ h => h) (Or.inl ⟨by rfl, ?_⟩) (by assumption) ?_
      rotate_left
      · (intro w hSw; (try dsimp only at hSw); go_simp; try (with_reducible rfl))
      try simp only [Act.put, List.setIfInBounds_toArray, List.set_cons_zero, List.set_cons_succ]
      refine wpAnyH_take (i := 5) (v := ?_) rfl (by kernel_rfl) (by kernel_rfl) (by kernel_rfl) (fun _ _ _ h => h) (Or.inl ⟨by rfl, ?_⟩) (by assumption) ?_
      rotate_left
      · (intro w hSw; (try dsimp only at hSw); go_simp; try (with_reducible rfl))
      try simp only [Act.put, List.setIfInBounds_toArray, List.set_cons_zero, List.set_cons_succ]
      refine wpAnyH_take (i := 6) (v := ?_) rfl (by kernel_rfl) (by kernel_rfl) (by kernel_rfl) (fun _ _ _ h => h) (Or.inl ⟨by rfl, ?_⟩) (by assumption) ?_
      rotate_left
      · (intro w hSw; (try dsimp only at hSw); go_simp; try (with_reducible rfl))
      try simp only [Act.put, List.setIfInBounds_toArray, List.set_cons_zero, List.set_cons_succ]
      refine wpAnyH_ready (rs := [7]) (by kernel_rfl) (by simp) ?_
      refine AllReadyH.cons rfl (fun K hK => ?_) AllReadyH.nil
      go_simp
      go_at_call 75
      (with_reducible refine (rf_block _ f kOf KC _ hxs HKG.out).mono ?_)
      rintro e z1 ⟨rfl, hz⟩
      have hz1 : Below wr.heap.size wr z1 := (Below.refl _ _).drew.trans hz
      refine hK.out _ _ (MK.out z1 hz1) (fun hHeld2 => ?_)
      clear hK K
      try simp only [Act.put, List.setIfInBounds_toArray, List.set_cons_zero, List.set_cons_succ]
      rw [HES.out]
      have hh1 := HH.out.below hz1 (by omega)
      have hk1' := HK.out.below hz1 (by omega)
      have hb1' : Below w.heap.size w z1 := HB.out.trans (hz1.mono (by have := HB.out.size; omega))
      have hs1' := hz1.size
      have g0 := hh1.cell 0 (by omega)
      have g1 := hh1.cell 1 (by omega)
      have g2 := hh1.cell 2 (by omega)
      have g3 := hh1.cell 3 (by omega)
      have g4 := hh1.cell 4 (by omega)
      have g5 := hh1.cell 5 (by omega)
      have g6 := hh1.cell 6 (by omega)
      have g7 := hh1.cell 7 (by omega)
      have l0 := hh1.live 0 (by omega)
      have l1 := hh1.live 1 (by omega)
      have l2 := hh1.live 2 (by omega)
      have l3 := hh1.live 3 (by omega)
      have l4 := hh1.live 4 (by omega)
      have l5 := hh1.live 5 (by omega)
      have l6 := hh1.live 6 (by omega)
      have l7 := hh1.live 7 (by omega)
      have HH1 := Lib.hid hh1
      have HK1' := Lib.hid hk1'
      have HB1' := Lib.hid hb1'
      clear hh1 hk1' hb1' hz1 hz hHeld2 hHeld MK RK HH HK HB
      refine wpAnyH_done (by kernel_rfl) ?_ _
      refine lastQ_step (by rfl) (by rfl) ?_
      go_simp
      go_wp2_with fail
      go_roundw
      case measure => simp [intOf]; omega
      case rel =>
        exact ⟨m + 1, by omega, by go_num, set8_below HB1'.out (by omega), by simp; omega, set8_arr HH1.out rfl rfl rfl rfl rfl rfl rfl rfl, set8_far HK1'.out (by omega)⟩
    · have hmM : m = M := by omega
      subst hmM
      have hge : ¬ 64 * (m : Int) < (P.size : Int) := by omega
      have hd : P.size / 64 = m := by omega
      have hsh := HSHA.out
      rw [hd] at hsh
      have HSH := Lib.hid hsh
      clear hsh hd HSHA
      obtain ⟨f, hf⟩ : ∃ f, shaSt P m = f := ⟨_, rfl⟩
      rw [hf] at HH HSH
      have g0 := HH.out.cell 0 (by omega)
      have g1 := HH.out.cell 1 (by omega)
      have g2 := HH.out.cell 2 (by omega)
      have g3 := HH.out.cell 3 (by omega)
      have g4 := HH.out.cell 4 (by omega)
      have g5 := HH.out.cell 5 (by omega)
      have g6 := HH.out.cell 6 (by omega)
      have g7 := HH.out.cell 7 (by omega)
      clear hh hk hbl hPs hf HH HK
      obtain ⟨i0, hi, hz0, hz1, hz2⟩ := info_parts infoB
      go_wp2_with fail
      clear g0 g1 g2 g3 g4 g5 g6 g7
      obtain ⟨wA, hwA⟩ : ∃ wA, wA = wr := ⟨wr, rfl⟩
      subst hwA
      go_loopw [7, 9, 29] (fun v _ i wq => ∃ t : Nat, t ≤ 8 ∧ i = .int .i64 t ∧ wq.ownsRow w.heap.size 5 1 v (4 * t) (outC f t) ∧ Below w.heap.size w wq) (fun _ _ i _ => 8 - (intOf i).toNat)
      case atStart => exact ⟨0, by omega, rfl, World.ownsRow_nil _ _ _ _, HB.out⟩
      case round =>
        clear HB
        obtain ⟨t, ht, rfl, hown, hbl⟩ := hrel
        have HB := Lib.hid hbl
        have hsz := hbl.size
        clear hbl
        by_cases ht8 : t < 8
        · have ix := index8r f t ht8
          go_wp2_with (at_builtin; refine wpList_append_own _ rfl _ _ 108 rfl w.heap.size 5 i0 (.int .u8 0) 1 1 Tryz.underlying108 hi hz0 hz1 hz2 rfl (by decide) _ _ _ rfl (hown.alloc _) ⟨wr.heap.size, 0, none⟩ 4 4 [.int .u8 (f t / 16777216 % 256), .int .u8 (f t / 65536 % 256), .int .u8 (f t / 256 % 256), .int .u8 (f t % 256)] rfl rfl ?c1 (ints_oneCell .u8 [_, _, _, _]) (by unfold maxLen; omega) (by omega) (by simp; omega) ?_)
          case c1 =>
            intro j u hu
            rw [addr_add]
            have hc := cell_of_row (wr.alloc (.cells #[.int .u8 (f t / 16777216 % 256), .int .u8 (f t / 65536 % 256), .int .u8 (f t / 256 % 256), .int .u8 (f t % 256)] 5)) wr.heap.size j _ _ _ (heap_alloc_new wr _)
            rw [hc]
            simpa using hu
          intro v' w5 hown' hgrow _
          have hlt := hown.lt
          have HO5 : Hid (w5.ownsRow w.heap.size 5 1 v' (4 * (t + 1)) (outC f (t + 1))) := Lib.hid (by rw [outC_next]; exact hown')
          have HB5 := Lib.hid ((HB.out.alloc (by omega) _).grown hgrow (by simp; omega) (fun g hg => (hlt g hg).1))
          clear hown' hgrow hown hlt HB
          go_wp2_with fail
          go_roundw
          case measure => simp [intOf]; omega
          case rel => exact ⟨t + 1, by omega, by go_num, HO5.out, HB5.out⟩
        · have ht8' : t = 8 := by omega
          subst ht8'
          obtain ⟨g, cap, rfl⟩ : ∃ g cap, u7 = .slice (some ⟨g, 0, none⟩) (4 * 8) cap := by
            rcases hown.2 with ⟨_, h0⟩ | ⟨g, cap, cur, hv, _⟩
            · omega
            · exact ⟨g, cap, hv⟩
          have hcell := hown.cells (g := g) rfl
          have hcv := run_convert_bytes_arg (P := Tryz.prog) wr 108 5 Tryz.underlying108 Tryz.underlying5 g 0 32 cap (outL f) (by simp [outL]) (fun i hi => by
            rw [Nat.zero_add, outL_get f i hi]
            have := hcell i (.int .u8 (f (i / 4) / ((2 ^ (24 - 8 * (i % 4)) : Nat) : Int) % 256)) (by unfold outC; rw [List.getElem?_map, List.getElem?_range (by omega)]; rfl)
            rwa [addr_add] at this) 9 Tryz.underlying9
          clear hown hcell
          go_wp2_with fail
          go_ret
          exact ⟨by rw [HSH.out]; rfl, HB.out⟩
end Go.Proofs.YtgbhaaongmlpkaaGreatDoor
namespace Go.Proofs.YtgbhaaongmlpkaaGreatDoor
open Go.RowKit Num

/-- A number in four bytes. -/
def fourL (n : Nat) : List UInt8 := [UInt8.ofNat (n / 16777216), UInt8.ofNat (n / 65536 % 256), UInt8.ofNat (n / 256 % 256), UInt8.ofNat (n % 256)]
def fourB (n : Nat) : ByteArray := ⟨(fourL n).toArray⟩
theorem fourB_size (n : Nat) : (fourB n).size = 4 := rfl
def fourC (n : Nat) : Array Value := #[.int .u8 ((n : Int) / 16777216), .int .u8 ((n : Int) / 65536 % 256), .int .u8 ((n : Int) / 256 % 256), .int .u8 ((n : Int) % 256)]
set_option maxRecDepth 100000 in
theorem four_convert (n : Nat) (w : World) (h : n < 4294967296) :
    (convert 108 9 (.slice (some ⟨w.heap.size, 0, none⟩) 4 4)).run Tryz.prog (w.alloc (.cells (fourC n) 5)) = .ok (.string (fourB n)) (w.alloc (.cells (fourC n) 5)) := by
  have hb : Blk (w.alloc (.cells (fourC n) 5)) w.heap.size 5 (fourC n) := Blk.new w _ _
  have hcv := run_convert_bytes_arg (P := Tryz.prog) (w.alloc (.cells (fourC n) 5)) 108 5 Tryz.underlying108 Tryz.underlying5 w.heap.size 0 4 4
    [((n / 16777216 : Nat) : Int), ((n / 65536 % 256 : Nat) : Int), ((n / 256 % 256 : Nat) : Int), ((n % 256 : Nat) : Int)] rfl (fun i hi => by
      rw [Nat.zero_add]
      match i, hi with
      | 0, _ => rw [hb.cell 0]; show some (Value.int .u8 ((n : Int) / 16777216)) = _; congr 2
      | 1, _ => rw [hb.cell 1]; show some (Value.int .u8 ((n : Int) / 65536 % 256)) = _; congr 2
      | 2, _ => rw [hb.cell 2]; show some (Value.int .u8 ((n : Int) / 256 % 256)) = _; congr 2
      | 3, _ => rw [hb.cell 3]; show some (Value.int .u8 ((n : Int) % 256)) = _; congr 2) 9 Tryz.underlying9
  have hst : strOfNums [((n / 16777216 : Nat) : Int), ((n / 65536 % 256 : Nat) : Int), ((n / 256 % 256 : Nat) : Int), ((n % 256 : Nat) : Int)] = fourB n := rfl
  rwa [hst] at hcv
def FourPost (n : Nat) (w : World) (e : Ending) (w' : World) : Prop := e = .returned (.string (fourB n)) ∧ Below w.heap.size w w'
set_option maxRecDepth 100000 in
set_option maxHeartbeats 400000 in
theorem d_four (n : Nat) (w : World) (h : n < 4294967296) :
    Calls Tryz.prog 50 #[.int .i64 (n : Int)] w (FourPost n w) := by
  have hcv := four_convert n w h
  unfold fourC at hcv
  go_enter Tryz.func50, Tryz.ntmps50
  go_wp2_with fail
  go_ret
  exact ⟨rfl, (Below.refl _ _).alloc (Nat.le_refl _) _⟩
set_option maxRecDepth 100000 in
set_option maxHeartbeats 400000 in
theorem rf_Four (n : Nat) (w : World) (h : n < 4294967296) :
    Calls Tryz.prog 56 #[.int .i64 (n : Int)] w (FourPost n w) := by
  have hcv := four_convert n w h
  unfold fourC at hcv
  go_enter Tryz.func56, Tryz.ntmps56
  go_wp2_with fail
  go_ret
  exact ⟨rfl, (Below.refl _ _).alloc (Nat.le_refl _) _⟩
/-- What is summed of two strings. -/
def pairB (a b : ByteArray) : ByteArray := ⟨#[1]⟩ ++ fourB a.size ++ a ++ fourB b.size ++ b
def pairS (a b : ByteArray) : ByteArray := shaOf (pairB a b)
theorem pairS_size (a b : ByteArray) : (pairS a b).size = 32 := shaOf_size _
theorem pair_sizes (a b : ByteArray) : ((⟨#[1]⟩ : ByteArray) ++ fourB a.size).size = 5 ∧ ((⟨#[1]⟩ : ByteArray) ++ fourB a.size ++ a).size = 5 + a.size ∧ ((⟨#[1]⟩ : ByteArray) ++ fourB a.size ++ a ++ fourB b.size).size = 9 + a.size ∧ (pairB a b).size = 9 + a.size + b.size := by
  have z1 : ((⟨#[1]⟩ : ByteArray) ++ fourB a.size).size = 5 := by rw [ByteArray.size_append, fourB_size]; rfl
  have z2 : ((⟨#[1]⟩ : ByteArray) ++ fourB a.size ++ a).size = 5 + a.size := by rw [ByteArray.size_append, z1]
  have z3 : ((⟨#[1]⟩ : ByteArray) ++ fourB a.size ++ a ++ fourB b.size).size = 9 + a.size := by rw [ByteArray.size_append, z2, fourB_size]; omega
  exact ⟨z1, z2, z3, by unfold pairB; rw [ByteArray.size_append, z3]⟩
def PairPost (a b : ByteArray) (w : World) (e : Ending) (w' : World) : Prop := e = .returned (.string (pairS a b)) ∧ Below w.heap.size w w'
set_option maxRecDepth 100000 in
set_option maxHeartbeats 1000000 in
theorem d_Pair (a b : ByteArray) (w : World) (ha : a.size < 1000000000) (hb : b.size < 1000000000) :
    Calls Tryz.prog 34 #[.string a, .string b] w (PairPost a b w) := by
  obtain ⟨z1, z2, z3, z4⟩ := pair_sizes a b
  have f1 := fun W => d_four a.size W (by omega)
  have f2 := fun W => d_four b.size W (by omega)
  have s1 := fun W => d_Sum (pairB a b) W (by omega)
  obtain ⟨x, hx⟩ : ∃ x, fourB a.size = x := ⟨_, rfl⟩
  obtain ⟨y, hy⟩ : ∃ y, fourB b.size = y := ⟨_, rfl⟩
  have e4 : pairB a b = ⟨#[1]⟩ ++ x ++ a ++ y ++ b := by unfold pairB; rw [hx, hy]
  unfold FourPost at f1 f2
  rw [e4] at s1 z4
  rw [hx] at f1 z1 z2 z3
  rw [hy] at f2 z3
  have x4 : x.size = 4 := by rw [← hx]; rfl
  have y4 : y.size = 4 := by rw [← hy]; rfl
  have F1 := Lib.hid f1
  have F2 := Lib.hid f2
  have S1 := Lib.hid s1
  have E4 := Lib.hid e4
  have Z := Lib.hid (And.intro z1 (And.intro z2 (And.intro z3 z4)))
  clear f1 f2 s1 e4 hx hy z4
  go_enter Tryz.func34, Tryz.ntmps34
  go_wp2_with fail
  refine (F1.out _).mono ?_
  rintro e w1 ⟨rfl, hb1⟩
  have s1 := hb1.size
  go_wp2_with fail
  refine (F2.out _).mono ?_
  rintro e w2 ⟨rfl, hb2⟩
  have s2 := hb2.size
  go_wp2_with fail
  refine (S1.out _).mono ?_
  rintro e w3 ⟨rfl, hb3⟩
  go_wp2_with fail
  go_ret
  exact ⟨(by unfold pairS; rw [E4.out]; rfl), (hb1.trans (hb2.mono s1)).trans (hb3.mono (by omega))⟩
set_option maxRecDepth 100000 in
set_option maxHeartbeats 1000000 in
theorem rf_Pair (a b : ByteArray) (w : World) (ha : a.size < 1000000000) (hb : b.size < 1000000000) :
    Calls Tryz.prog 39 #[.string a, .string b] w (PairPost a b w) := by
  obtain ⟨z1, z2, z3, z4⟩ := pair_sizes a b
  have f1 := fun W => rf_Four a.size W (by omega)
  have f2 := fun W => rf_Four b.size W (by omega)
  have s1 := fun W => rf_Sum (pairB a b) W (by omega)
  obtain ⟨x, hx⟩ : ∃ x, fourB a.size = x := ⟨_, rfl⟩
  obtain ⟨y, hy⟩ : ∃ y, fourB b.size = y := ⟨_, rfl⟩
  have e4 : pairB a b = ⟨#[1]⟩ ++ x ++ a ++ y ++ b := by unfold pairB; rw [hx, hy]
  unfold FourPost at f1 f2
  rw [e4] at s1 z4
  rw [hx] at f1 z1 z2 z3
  rw [hy] at f2 z3
  have x4 : x.size = 4 := by rw [← hx]; rfl
  have y4 : y.size = 4 := by rw [← hy]; rfl
  have F1 := Lib.hid f1
  have F2 := Lib.hid f2
  have S1 := Lib.hid s1
  have E4 := Lib.hid e4
  have Z := Lib.hid (And.intro z1 (And.intro z2 (And.intro z3 z4)))
  clear f1 f2 s1 e4 hx hy z4
  go_enter Tryz.func39, Tryz.ntmps39
  go_wp2_with fail
  refine (F1.out _).mono ?_
  rintro e w1 ⟨rfl, hb1⟩
  have s1 := hb1.size
  go_wp2_with fail
  refine (F2.out _).mono ?_
  rintro e w2 ⟨rfl, hb2⟩
  have s2 := hb2.size
  go_wp2_with fail
  refine (S1.out _).mono ?_
  rintro e w3 ⟨rfl, hb3⟩
  go_wp2_with fail
  go_ret
  exact ⟨(by unfold pairS; rw [E4.out]; rfl), (hb1.trans (hb2.mono s1)).trans (hb3.mono (by omega))⟩
end Go.Proofs.YtgbhaaongmlpkaaGreatDoor
namespace Go.Proofs.YtgbhaaongmlpkaaGreatDoor
open Go.RowKit Num

/-- A field of a form. -/
structure Fld where
  name : ByteArray
  kind : Int
  need : Bool
  least : Int
  most : Int
  opts : List ByteArray
def fld0 : Fld := ⟨⟨#[]⟩, 0, false, 0, 0, []⟩
def fldAt (L : List Fld) (k : Nat) : Fld := L.getD k fld0
/-- Texts in memory. -/
def TxsAt (w : World) (S : Nat → Prop) (v : Value) (ss : List ByteArray) : Prop :=
  ∃ (A : Option Addr) (n c : Nat), v = .slice A n c ∧ n = ss.length ∧ n ≤ c ∧ (0 < n → ∃ b off, A = some ⟨b, off, none⟩ ∧ S b ∧ ∀ k, k < n → w.cell? ⟨b, off + k, none⟩ = some (.string (ss.getD k ⟨#[]⟩)))
theorem TxsAt.keep {w w' : World} {S : Nat → Prop} {v : Value} {ss : List ByteArray} (h : TxsAt w S v ss) (hk : ∀ b, S b → w'.heap[b]? = w.heap[b]?) : TxsAt w' S v ss := by
  obtain ⟨A, n, c, h1, h2, h3, h4⟩ := h
  refine ⟨A, n, c, h1, h2, h3, fun hn => ?_⟩
  obtain ⟨b, off, hA, hS, hc⟩ := h4 hn
  exact ⟨b, off, hA, hS, fun k hk' => (World.cell?_of_block (hk b hS)).trans (hc k hk')⟩
theorem TxsAt.mono {w : World} {S T : Nat → Prop} {v : Value} {ss : List ByteArray} (h : TxsAt w S v ss) (hk : ∀ b, S b → T b) : TxsAt w T v ss := by
  obtain ⟨A, n, c, h1, h2, h3, h4⟩ := h
  refine ⟨A, n, c, h1, h2, h3, fun hn => ?_⟩
  obtain ⟨b, off, hA, hS, hc⟩ := h4 hn
  exact ⟨b, off, hA, hk b hS, hc⟩
theorem TxsAt.of_own {w : World} {B : Nat} {v : Value} {n : Nat} {ss : List ByteArray} (h : w.ownsRow B 9 1 v n (ss.map Value.string)) : TxsAt w (fun b => B ≤ b ∧ b < w.heap.size) v ss := by
  have hl : n = ss.length := by have := h.1; simpa using this.symm
  rcases id h.2 with ⟨rfl, rfl⟩ | ⟨g, cap, cur, rfl, hB, hh, hnc, _⟩
  · exact ⟨none, 0, 0, rfl, hl, Nat.le_refl _, fun hn => absurd hn (Nat.lt_irrefl 0)⟩
  · refine ⟨_, n, cap, rfl, hl, hnc, fun hn => ⟨g, 0, rfl, ⟨hB, (Array.getElem?_eq_some_iff.1 hh).1⟩, fun k hk => ?_⟩⟩
    rw [Nat.zero_add, h.cellAt k (by omega), List.getElem?_map, List.getElem?_eq_getElem (by omega), List.getD_eq_getElem?_getD, List.getElem?_eq_getElem (by omega)]
    rfl
/-- A field in memory. -/
def FldAt (w : World) (S : Nat → Prop) (b off : Nat) (f : Fld) : Prop :=
  w.cell? ⟨b, off, none⟩ = some (.string f.name) ∧ w.cell? ⟨b, off + 1, none⟩ = some (.int .i64 f.kind) ∧ w.cell? ⟨b, off + 2, none⟩ = some (.bool f.need) ∧ w.cell? ⟨b, off + 3, none⟩ = some (.int .i64 f.least) ∧ w.cell? ⟨b, off + 4, none⟩ = some (.int .i64 f.most) ∧
    ∃ u, w.cell? ⟨b, off + 5, none⟩ = some u ∧ TxsAt w S u f.opts
def FldsAt (w : World) (S : Nat → Prop) (v : Value) (L : List Fld) : Prop :=
  ∃ (A : Option Addr) (n c : Nat), v = .slice A n c ∧ n = L.length ∧ n ≤ c ∧ (0 < n → ∃ b off, A = some ⟨b, off, none⟩ ∧ S b ∧ ∀ k, k < n → FldAt w S b (off + k * 6) (fldAt L k))
theorem FldAt.keep {w w' : World} {S : Nat → Prop} {b off : Nat} {f : Fld} (h : FldAt w S b off f) (hb : w'.heap[b]? = w.heap[b]?) (hk : ∀ b, S b → w'.heap[b]? = w.heap[b]?) : FldAt w' S b off f := by
  obtain ⟨h0, h1, h2, h3, h4, u, h5, h6⟩ := h
  have e : ∀ o, w'.cell? ⟨b, o, none⟩ = w.cell? ⟨b, o, none⟩ := fun o => World.cell?_of_block hb
  exact ⟨(e _).trans h0, (e _).trans h1, (e _).trans h2, (e _).trans h3, (e _).trans h4, u, (e _).trans h5, h6.keep hk⟩
theorem FldAt.mono {w : World} {S T : Nat → Prop} {b off : Nat} {f : Fld} (h : FldAt w S b off f) (hk : ∀ b, S b → T b) : FldAt w T b off f := by
  obtain ⟨h0, h1, h2, h3, h4, u, h5, h6⟩ := h
  exact ⟨h0, h1, h2, h3, h4, u, h5, h6.mono hk⟩
theorem FldsAt.keep {w w' : World} {S : Nat → Prop} {v : Value} {L : List Fld} (h : FldsAt w S v L) (hk : ∀ b, S b → w'.heap[b]? = w.heap[b]?) : FldsAt w' S v L := by
  obtain ⟨A, n, c, h1, h2, h3, h4⟩ := h
  refine ⟨A, n, c, h1, h2, h3, fun hn => ?_⟩
  obtain ⟨b, off, hA, hS, hc⟩ := h4 hn
  exact ⟨b, off, hA, hS, fun k hk' => (hc k hk').keep (hk b hS) hk⟩
theorem FldsAt.mono {w : World} {S T : Nat → Prop} {v : Value} {L : List Fld} (h : FldsAt w S v L) (hk : ∀ b, S b → T b) : FldsAt w T v L := by
  obtain ⟨A, n, c, h1, h2, h3, h4⟩ := h
  refine ⟨A, n, c, h1, h2, h3, fun hn => ?_⟩
  obtain ⟨b, off, hA, hS, hc⟩ := h4 hn
  exact ⟨b, off, hA, hk b hS, fun k hk' => (hc k hk').mono hk⟩
/-- What is small enough for the walks. -/
def FldOk (f : Fld) : Prop := f.name.size ≤ 4294967296 ∧ f.opts.length ≤ 1000000 ∧ -9223372036854775808 ≤ f.kind ∧ f.kind < 9223372036854775808 ∧ -9223372036854775808 ≤ f.least ∧ f.least < 9223372036854775808 ∧ -9223372036854775808 ≤ f.most ∧ f.most < 9223372036854775808 ∧ ∀ s ∈ f.opts, s.size ≤ 9223372036854775807
/-! ### Which forms are valid -/
def optGood (L : List ByteArray) (k : Nat) : Prop := ∀ i, i < k → 1 ≤ (L.getD i ⟨#[]⟩).size ∧ (L.getD i ⟨#[]⟩).size ≤ 256 ∧ ∀ j, j < i → L.getD j ⟨#[]⟩ ≠ L.getD i ⟨#[]⟩
noncomputable instance (L : List ByteArray) (k : Nat) : Decidable (optGood L k) := Classical.propDecidable _
noncomputable def optsB (L : List ByteArray) : Bool := decide (optGood L L.length ∧ 1 ≤ L.length ∧ L.length ≤ 16)
noncomputable def fldB (f : Fld) : Bool := nameB (blOf f.name) && decide (f.least ≤ f.most) && (decide (f.kind = 4) || decide (f.opts.length = 0)) &&
  (if f.kind = 1 then decide (0 ≤ f.least) && decide (f.most ≤ 16384) else if f.kind = 2 then true else if f.kind = 3 then decide (0 ≤ f.least) && decide (f.most ≤ 3652058) else if f.kind = 4 then decide (f.least = 0) && decide (f.most = 0) && optsB f.opts else false)
/-- The number of the first field with a name. -/
def findF (s : ByteArray) : List Fld → Nat → Option Nat
  | [], _ => none
  | f :: r, k => if blOf f.name = blOf s then some k else findF s r (k + 1)
end Go.Proofs.YtgbhaaongmlpkaaGreatDoor
