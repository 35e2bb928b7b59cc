/- The contract of the recursion over choices: the step. -/
import Derived.Test.YtmneokkdkgflkaaDoorHanCho2
set_option linter.unusedVariables false
set_option linter.unusedSimpArgs false
namespace Go.Proofs.YtmneokkdkgflkaaDoor
open Go.RowKit Num

theorem find_range {α : Type} {r : α} (f : Nat → Option α) : ∀ m a j, a ≤ j → j < a + m → (∀ q, a ≤ q → q < j → f q = none) → f j = some r → (List.range' a m).findSome? f = some r := by
  intro m
  induction m with
  | zero => intro a j h1 h2; omega
  | succ m ih =>
    intro a j h1 h2 h3 h4
    rw [List.range'_succ, List.findSome?_cons]
    rcases Nat.eq_or_lt_of_le h1 with h | h
    · subst h; rw [h4]
    · rw [h3 a (Nat.le_refl _) h]; exact ih (a + 1) j (by omega) (by omega) (fun q e1 e2 => h3 q (by omega) e2) h4
set_option maxRecDepth 100000 in
set_option maxHeartbeats 4000000 in
theorem h_choZ (p need n d bs by_ bn bc bl bg bp bh bw be : Nat) (l : List Sh) (w : World) (hc : ChIn bs by_ bn bc bl bg bp bh bw be need n w)
    (hl : d + 1 = need) (hn9 : n ≤ 9) (hneed : need ≤ 9)
    (IH : ∀ (j : Nat) (v' : Value) (W : World), Below w.heap.size w W → nextOf [] ≤ j → j < n → IntsAt W (Old W) v' (([] ++ [j]).map Int.ofNat) →
      Calls Tryd.prog 89 #[v', .pointer (some ⟨bs, 0, none⟩), .pointer (some ⟨by_, 0, none⟩), .pointer (some ⟨bn, 0, none⟩), .pointer (some ⟨bc, 0, none⟩)] W (ChPost p bh bw be l (rob (small p need l) n d ([] ++ [j])) W)) :
    Calls Tryd.prog 89 #[.slice none 0 0, .pointer (some ⟨bs, 0, none⟩), .pointer (some ⟨by_, 0, none⟩), .pointer (some ⟨bn, 0, none⟩), .pointer (some ⟨bc, 0, none⟩)] w (ChPost p bh bw be l (rob (small p need l) n (d + 1) []) w) := by
  obtain ⟨i0, hi, hz0, hz1, hz2⟩ := info_parts infoI
  have c0 : w.cell? ⟨bs, 0, none⟩ = some (.int .i64 (need : Int)) := hc.s.cell 0
  have t0 : ((0 : Int) == (need : Int)) = false := by simp; omega
  have hsl2 : ∀ W, (Instr.slice 22 (.slice none 0 0) none (some (.int .i64 0)) (some (.int .i64 0))).run Tryd.prog W = .ok (.slice none 0 0) W := fun W => run_slice_full (P := Tryd.prog) W 22 3 i0 Tryd.underlying22 hi none 0 0 (Nat.le_refl _)
  have hnx : nextOf [] = 0 := rfl
  have HIH := Lib.hid IH
  have HC := Lib.hid hc
  have HNX := Lib.hid hnx
  clear IH hc hl hnx
  have t1 : decide ((0 : Int) < ((0 : Nat) : Int)) = false := by decide
  go_enter Tryd.func89, Tryd.ntmps89
  go_wp2_with fail
  have m0 : w.cell? ⟨bn, 0, none⟩ = some (.int .i64 (n : Int)) := HC.out.m.cell 0
  go_loopw [8] (fun i wr => ∃ j : Nat, 0 ≤ j ∧ j ≤ n ∧ i = .int .i64 (j : Int) ∧ Below w.heap.size w wr ∧ (∀ q, 0 ≤ q → q < j → rob (small p need l) n d (([] : List Nat) ++ [q]) = none)) (fun i _ => n - (intOf i).toNat)
  case atStart => exact ⟨0, Nat.le_refl _, by omega, rfl, Below.refl _ _, fun q h1 h2 => absurd h1 (by omega)⟩
  case round =>
      obtain ⟨j, hj1, hj2, rfl, hbl, hq⟩ := hrel
      have hcr := HC.out.below hbl
      have k0 : wr.cell? ⟨bn, 0, none⟩ = some (.int .i64 (n : Int)) := hcr.m.cell 0
      have k1 : wr.cell? ⟨bc, 0, none⟩ = some (.func (.func 89) #[] #[.pointer (some ⟨bs, 0, none⟩), .pointer (some ⟨by_, 0, none⟩), .pointer (some ⟨bn, 0, none⟩), .pointer (some ⟨bc, 0, none⟩)]) := hcr.c.cell 0
      have k2 : ∀ o : Obj, (wr.alloc o).drew.cell? ⟨bc, 0, none⟩ = some (.func (.func 89) #[] #[.pointer (some ⟨bs, 0, none⟩), .pointer (some ⟨by_, 0, none⟩), .pointer (some ⟨bn, 0, none⟩), .pointer (some ⟨bc, 0, none⟩)]) := fun o => (World.cell?_alloc_lt wr o ⟨bc, 0, none⟩ hcr.c.lt).trans k1
      have HBL := Lib.hid hbl
      have HQ := Lib.hid hq
      have HCR := Lib.hid hcr
      have hsz := hbl.size
      clear hbl hq hcr m0
      by_cases hlt : j < n
      · have qj : (j : Int) < (n : Int) := by omega
        rcases hrb : rob (small p need l) n d (([] : List Nat) ++ [j]) with _ | r
        · have HRB := Lib.hid hrb
          clear hrb
          go_wp2_with fail
          go_region_law (first
            | (
               refine step_append_grows _ (by rfl) _ _ _ (by rfl) 3 i0 _ 1 8 Tryd.underlying22 hi hz0 hz1 hz2 rfl (by omega) none 0 0 [] (by rfl) (fun _ => ⟨rfl, rfl⟩) rfl (fun bb hb' => by cases hb') ⟨wr.heap.size, 0, none⟩ 1 1 [.int .i64 (j : Int)] (by rfl) (by rfl) (cell_one_new _ _ _) (ints_oneCell .i64 [_]) (by omega) (by simp only [maxLen]; omega) (by omega) ?_
               intro v5 w5 hown5 hgrow5
               have hb5 : Below wr.heap.size wr w5 := ⟨hgrow5.os, hgrow5.tape, hgrow5.output, Nat.le_trans (by simp) hgrow5.size, fun q hq => (hgrow5.block q (by simp; omega) (by simp)).trans (Below.heap_alloc wr _ q hq)⟩
               have hbw5 : Below w.heap.size w w5 := HBL.out.trans (hb5.mono hsz)
               have hint : IntsAt w5 (Old w5) v5 ((([] : List Nat) ++ [j]).map Int.ofNat) := (IntsAt.of_own (xs := (([] : List Nat) ++ [j]).map Int.ofNat) (by exact hown5)).mono fun g hg => hg.2
               have hih := HIH.out j v5 w5 hbw5 (by rw [HNX.out]; omega) hlt hint
               rw [HRB.out] at hih
               have HIH5 := Lib.hid hih
               have k5 : w5.cell? ⟨bc, 0, none⟩ = some (.func (.func 89) #[] #[.pointer (some ⟨bs, 0, none⟩), .pointer (some ⟨by_, 0, none⟩), .pointer (some ⟨bn, 0, none⟩), .pointer (some ⟨bc, 0, none⟩)]) := (HCR.out.c.below hb5 HCR.out.c.lt).cell 0
               have HBW5 := Lib.hid hbw5
               clear hown5 hgrow5 hb5 hbw5 hint hih)
            | (go_simp; go_at_call 89; (with_reducible refine HIH5.out.mono ?_); rintro e w6 ⟨rfl, h6⟩))
          all_goals
            have hb6 : Below w5.heap.size w5 w6 := h6
            have hb7 := HBW5.out.trans (hb6.mono HBW5.out.size)
            have HB7 := Lib.hid hb7
            clear h6 hb6 hb7
            go_wp2_with fail
            go_roundw
            case measure => simp [intOf]; omega
            case rel => exact ⟨j + 1, by omega, by omega, by go_num, HB7.out, fun q h1 h2 => by
                   rcases Nat.lt_or_ge q j with h3 | h3
                   · exact HQ.out q h1 h3
                   · have : q = j := by omega
                     subst this; exact HRB.out⟩
        · have HRB := Lib.hid hrb
          clear hrb
          go_wp2_with fail
          go_region_law (first
            | (
               refine step_append_grows _ (by rfl) _ _ _ (by rfl) 3 i0 _ 1 8 Tryd.underlying22 hi hz0 hz1 hz2 rfl (by omega) none 0 0 [] (by rfl) (fun _ => ⟨rfl, rfl⟩) rfl (fun bb hb' => by cases hb') ⟨wr.heap.size, 0, none⟩ 1 1 [.int .i64 (j : Int)] (by rfl) (by rfl) (cell_one_new _ _ _) (ints_oneCell .i64 [_]) (by omega) (by simp only [maxLen]; omega) (by omega) ?_
               intro v5 w5 hown5 hgrow5
               have hb5 : Below wr.heap.size wr w5 := ⟨hgrow5.os, hgrow5.tape, hgrow5.output, Nat.le_trans (by simp) hgrow5.size, fun q hq => (hgrow5.block q (by simp; omega) (by simp)).trans (Below.heap_alloc wr _ q hq)⟩
               have hbw5 : Below w.heap.size w w5 := HBL.out.trans (hb5.mono hsz)
               have hint : IntsAt w5 (Old w5) v5 ((([] : List Nat) ++ [j]).map Int.ofNat) := (IntsAt.of_own (xs := (([] : List Nat) ++ [j]).map Int.ofNat) (by exact hown5)).mono fun g hg => hg.2
               have hih := HIH.out j v5 w5 hbw5 (by rw [HNX.out]; omega) hlt hint
               rw [HRB.out] at hih
               have HIH5 := Lib.hid hih
               have k5 : w5.cell? ⟨bc, 0, none⟩ = some (.func (.func 89) #[] #[.pointer (some ⟨bs, 0, none⟩), .pointer (some ⟨by_, 0, none⟩), .pointer (some ⟨bn, 0, none⟩), .pointer (some ⟨bc, 0, none⟩)]) := (HCR.out.c.below hb5 HCR.out.c.lt).cell 0
               have HBW5 := Lib.hid hbw5
               clear hown5 hgrow5 hb5 hbw5 hint hih)
            | (go_simp; go_at_call 89; (with_reducible refine HIH5.out.mono ?_); rintro e w6 ⟨rfl, h6⟩))
          all_goals
            obtain ⟨hy, hf⟩ := h6
            have hrob : rob (small p need l) n (d + 1) ([] : List Nat) = some r := by
              unfold rob
              rw [HNX.out]
              exact find_range _ _ _ j hj1 (by omega) HQ.out HRB.out
            have HY := Lib.hid hy
            have HF := Lib.hid hf
            have HROB := Lib.hid hrob
            clear hy hf hrob
            go_wp2_with fail
            go_ret
            rw [HROB.out]
            exact ⟨rfl, HY.out.mono HBW5.out.size, Far3.after HBW5.out HF.out⟩
      · have hjn : j = n := by omega
        have hj0 : ¬ (j : Int) < (n : Int) := by omega
        have hrob : rob (small p need l) n (d + 1) ([] : List Nat) = none := by
          unfold rob
          rw [HNX.out, List.findSome?_eq_none_iff]
          intro q hq'
          have := List.mem_range'_1.1 hq'
          exact HQ.out q (by omega) (by omega)
        have HROB := Lib.hid hrob
        clear hrob hjn
        go_wp2_with fail
        go_ret
        rw [HROB.out]
        exact ⟨rfl, HBL.out⟩
set_option maxRecDepth 100000 in
set_option maxHeartbeats 4000000 in
theorem h_choS (p need n d bs by_ bn bc bl bg bp bh bw be : Nat) (v : Value) (l : List Sh) (ch : List Nat) (w : World) (hc : ChIn bs by_ bn bc bl bg bp bh bw be need n w)
    (hv : IntsAt w (Old w) v (ch.map Int.ofNat)) (hl : ch.length + (d + 1) = need) (h1 : 1 ≤ ch.length) (hn9 : n ≤ 9) (hneed : need ≤ 9) (ha : Asc n ch)
    (IH : ∀ (j : Nat) (v' : Value) (W : World), Below w.heap.size w W → nextOf ch ≤ j → j < n → IntsAt W (Old W) v' ((ch ++ [j]).map Int.ofNat) →
      Calls Tryd.prog 89 #[v', .pointer (some ⟨bs, 0, none⟩), .pointer (some ⟨by_, 0, none⟩), .pointer (some ⟨bn, 0, none⟩), .pointer (some ⟨bc, 0, none⟩)] W (ChPost p bh bw be l (rob (small p need l) n d (ch ++ [j])) W)) :
    Calls Tryd.prog 89 #[v, .pointer (some ⟨bs, 0, none⟩), .pointer (some ⟨by_, 0, none⟩), .pointer (some ⟨bn, 0, none⟩), .pointer (some ⟨bc, 0, none⟩)] w (ChPost p bh bw be l (rob (small p need l) n (d + 1) ch) w) := by
  obtain ⟨i0, hi, hz0, hz1, hz2⟩ := info_parts infoI
  obtain ⟨A, k, c, rfl, hk, hkc, hcell⟩ := id hv
  rw [List.length_map] at hk
  obtain ⟨k', rfl⟩ : ∃ k', k = k' + 1 := ⟨k - 1, by omega⟩
  have hlen : k' ≤ 7 := by omega
  have c0 : w.cell? ⟨bs, 0, none⟩ = some (.int .i64 (need : Int)) := hc.s.cell 0
  have t0 : ((k' : Int) + 1 == (need : Int)) = false := by simp; omega
  obtain ⟨nx, hnx⟩ : ∃ nx, nextOf ch = nx := ⟨_, rfl⟩
  have hnx' := hnx
  rw [nextOf_eq, if_neg (by omega)] at hnx'
  have hnxn : nx ≤ n := by have := ha.1 (ch.length - 1) (by omega); omega
  obtain ⟨b, off, rfl, hS, hcc⟩ := hcell (by omega)
  have ck : w.cell? ⟨b, off + k', none⟩ = some (.int .i64 ((nx : Int) - 1)) := by
    rw [hcc k' (by omega)]
    have e : (ch.map Int.ofNat).getD k' 0 = ((ch.getD (ch.length - 1) 0 : Nat) : Int) := by
      rw [List.getD_eq_getElem?_getD, List.getElem?_map, show ch.length - 1 = k' by omega, List.getD_eq_getElem?_getD, List.getElem?_eq_getElem (show k' < ch.length by omega)]; rfl
    rw [e]; congr 2; omega
  have hnx1 : 1 ≤ nx := by omega
  have hrd := hv.reads (B := w.heap.size) (fun b hb => hb)
  have hsl2 : ∀ W, (Instr.slice 22 (.slice (some ⟨b, off, none⟩) (k' + 1) c) none (some (.int .i64 ((k' : Int) + 1))) (some (.int .i64 ((k' : Int) + 1)))).run Tryd.prog W = .ok (.slice (some ⟨b, off, none⟩) (k' + 1) (k' + 1)) W := fun (W : World) => run_slice_full (P := Tryd.prog) W 22 3 i0 Tryd.underlying22 hi (some ⟨b, off, none⟩) (k' + 1) c hkc
  rw [hnx] at IH
  have HIH := Lib.hid IH
  have HC := Lib.hid hc
  have HRD := Lib.hid hrd
  have HNX := Lib.hid hnx
  have HK := Lib.hid hk
  clear IH hc hrd hnx hnx' hk hcell hcc hv ha hl h1
  have t1 : decide ((0 : Int) < ((k' : Int) + 1)) = true := decide_eq_true (by omega)
  go_enter Tryd.func89, Tryd.ntmps89
  go_wp2_with fail
  have m0 : w.cell? ⟨bn, 0, none⟩ = some (.int .i64 (n : Int)) := HC.out.m.cell 0
  go_loopw [8] (fun i wr => ∃ j : Nat, nx ≤ j ∧ j ≤ n ∧ i = .int .i64 (j : Int) ∧ Below w.heap.size w wr ∧ (∀ q, nx ≤ q → q < j → rob (small p need l) n d (ch ++ [q]) = none)) (fun i _ => n - (intOf i).toNat)
  case atStart => exact ⟨nx, Nat.le_refl _, by omega, rfl, Below.refl _ _, fun q h1 h2 => absurd h1 (by omega)⟩
  case round =>
      obtain ⟨j, hj1, hj2, rfl, hbl, hq⟩ := hrel
      have hcr := HC.out.below hbl
      have k0 : wr.cell? ⟨bn, 0, none⟩ = some (.int .i64 (n : Int)) := hcr.m.cell 0
      have k1 : wr.cell? ⟨bc, 0, none⟩ = some (.func (.func 89) #[] #[.pointer (some ⟨bs, 0, none⟩), .pointer (some ⟨by_, 0, none⟩), .pointer (some ⟨bn, 0, none⟩), .pointer (some ⟨bc, 0, none⟩)]) := hcr.c.cell 0
      have k2 : ∀ o : Obj, (wr.alloc o).drew.cell? ⟨bc, 0, none⟩ = some (.func (.func 89) #[] #[.pointer (some ⟨bs, 0, none⟩), .pointer (some ⟨by_, 0, none⟩), .pointer (some ⟨bn, 0, none⟩), .pointer (some ⟨bc, 0, none⟩)]) := fun o => (World.cell?_alloc_lt wr o ⟨bc, 0, none⟩ hcr.c.lt).trans k1
      have HBL := Lib.hid hbl
      have HQ := Lib.hid hq
      have HCR := Lib.hid hcr
      have hrr := HRD.out.below hbl
      have HRR := Lib.hid hrr
      clear hrr
      have hsz := hbl.size
      clear hbl hq hcr m0
      by_cases hlt : j < n
      · have qj : (j : Int) < (n : Int) := by omega
        rcases hrb : rob (small p need l) n d (ch ++ [j]) with _ | r
        · have HRB := Lib.hid hrb
          clear hrb
          go_wp2_with fail
          go_region_law (first
            | (
               refine step_append_grows _ (by rfl) _ _ _ (by rfl) 3 i0 _ 1 8 Tryd.underlying22 hi hz0 hz1 hz2 rfl (by omega) (some ⟨b, off, none⟩) (k' + 1) (k' + 1) (ch.map (Value.int .i64 ∘ Int.ofNat)) (by rfl) (fun h => by cases h) (by rw [List.length_map]; have := HK.out; omega) (fun bb hb' jj uu hu => by
                 obtain ⟨ad, e, hlt', hcc⟩ := HRR.out.2 (by have := HK.out; omega)
                 rw [hb'] at e; injection e with e; subst e
                 exact (World.cell?_alloc_lt wr _ (bb.add jj) (by rw [block_of_add]; omega)).trans (hcc jj uu (by rw [List.map_map]; exact hu))) ⟨wr.heap.size, 0, none⟩ 1 1 [.int .i64 (j : Int)] (by rfl) (by rfl) (cell_one_new _ _ _) (ints_oneCell .i64 [_]) (by omega) (by simp only [maxLen]; omega) (by omega) ?_
               intro v5 w5 hown5 hgrow5
               have hb5 : Below wr.heap.size wr w5 := ⟨hgrow5.os, hgrow5.tape, hgrow5.output, Nat.le_trans (by simp) hgrow5.size, fun q hq => (hgrow5.block q (by simp; omega) (by simp)).trans (Below.heap_alloc wr _ q hq)⟩
               have hbw5 : Below w.heap.size w w5 := HBL.out.trans (hb5.mono hsz)
               have hint : IntsAt w5 (Old w5) v5 ((ch ++ [j]).map Int.ofNat) := (IntsAt.of_own (xs := (ch ++ [j]).map Int.ofNat) (by rw [List.map_map, List.map_append]; exact hown5)).mono fun g hg => hg.2
               have hih := HIH.out j v5 w5 hbw5 (by omega) hlt hint
               rw [HRB.out] at hih
               have HIH5 := Lib.hid hih
               have k5 : w5.cell? ⟨bc, 0, none⟩ = some (.func (.func 89) #[] #[.pointer (some ⟨bs, 0, none⟩), .pointer (some ⟨by_, 0, none⟩), .pointer (some ⟨bn, 0, none⟩), .pointer (some ⟨bc, 0, none⟩)]) := (HCR.out.c.below hb5 HCR.out.c.lt).cell 0
               have HBW5 := Lib.hid hbw5
               clear hown5 hgrow5 hb5 hbw5 hint hih)
            | (go_simp; go_at_call 89; (with_reducible refine HIH5.out.mono ?_); rintro e w6 ⟨rfl, h6⟩))
          all_goals
            have hb6 : Below w5.heap.size w5 w6 := h6
            have hb7 := HBW5.out.trans (hb6.mono HBW5.out.size)
            have HB7 := Lib.hid hb7
            clear h6 hb6 hb7
            go_wp2_with fail
            go_roundw
            case measure => simp [intOf]; omega
            case rel => exact ⟨j + 1, by omega, by omega, by go_num, HB7.out, fun q h1 h2 => by
                   rcases Nat.lt_or_ge q j with h3 | h3
                   · exact HQ.out q h1 h3
                   · have : q = j := by omega
                     subst this; exact HRB.out⟩
        · have HRB := Lib.hid hrb
          clear hrb
          go_wp2_with fail
          go_region_law (first
            | (
               refine step_append_grows _ (by rfl) _ _ _ (by rfl) 3 i0 _ 1 8 Tryd.underlying22 hi hz0 hz1 hz2 rfl (by omega) (some ⟨b, off, none⟩) (k' + 1) (k' + 1) (ch.map (Value.int .i64 ∘ Int.ofNat)) (by rfl) (fun h => by cases h) (by rw [List.length_map]; have := HK.out; omega) (fun bb hb' jj uu hu => by
                 obtain ⟨ad, e, hlt', hcc⟩ := HRR.out.2 (by have := HK.out; omega)
                 rw [hb'] at e; injection e with e; subst e
                 exact (World.cell?_alloc_lt wr _ (bb.add jj) (by rw [block_of_add]; omega)).trans (hcc jj uu (by rw [List.map_map]; exact hu))) ⟨wr.heap.size, 0, none⟩ 1 1 [.int .i64 (j : Int)] (by rfl) (by rfl) (cell_one_new _ _ _) (ints_oneCell .i64 [_]) (by omega) (by simp only [maxLen]; omega) (by omega) ?_
               intro v5 w5 hown5 hgrow5
               have hb5 : Below wr.heap.size wr w5 := ⟨hgrow5.os, hgrow5.tape, hgrow5.output, Nat.le_trans (by simp) hgrow5.size, fun q hq => (hgrow5.block q (by simp; omega) (by simp)).trans (Below.heap_alloc wr _ q hq)⟩
               have hbw5 : Below w.heap.size w w5 := HBL.out.trans (hb5.mono hsz)
               have hint : IntsAt w5 (Old w5) v5 ((ch ++ [j]).map Int.ofNat) := (IntsAt.of_own (xs := (ch ++ [j]).map Int.ofNat) (by rw [List.map_map, List.map_append]; exact hown5)).mono fun g hg => hg.2
               have hih := HIH.out j v5 w5 hbw5 (by omega) hlt hint
               rw [HRB.out] at hih
               have HIH5 := Lib.hid hih
               have k5 : w5.cell? ⟨bc, 0, none⟩ = some (.func (.func 89) #[] #[.pointer (some ⟨bs, 0, none⟩), .pointer (some ⟨by_, 0, none⟩), .pointer (some ⟨bn, 0, none⟩), .pointer (some ⟨bc, 0, none⟩)]) := (HCR.out.c.below hb5 HCR.out.c.lt).cell 0
               have HBW5 := Lib.hid hbw5
               clear hown5 hgrow5 hb5 hbw5 hint hih)
            | (go_simp; go_at_call 89; (with_reducible refine HIH5.out.mono ?_); rintro e w6 ⟨rfl, h6⟩))
          all_goals
            obtain ⟨hy, hf⟩ := h6
            have hrob : rob (small p need l) n (d + 1) ch = some r := by
              unfold rob
              rw [HNX.out]
              exact find_range _ _ _ j hj1 (by omega) HQ.out HRB.out
            have HY := Lib.hid hy
            have HF := Lib.hid hf
            have HROB := Lib.hid hrob
            clear hy hf hrob
            go_wp2_with fail
            go_ret
            rw [HROB.out]
            exact ⟨rfl, HY.out.mono HBW5.out.size, Far3.after HBW5.out HF.out⟩
      · have hjn : j = n := by omega
        have hj0 : ¬ (j : Int) < (n : Int) := by omega
        have hrob : rob (small p need l) n (d + 1) ch = none := by
          unfold rob
          rw [HNX.out, List.findSome?_eq_none_iff]
          intro q hq'
          have := List.mem_range'_1.1 hq'
          exact HQ.out q (by omega) (by omega)
        have HROB := Lib.hid hrob
        clear hrob hjn
        go_wp2_with fail
        go_ret
        rw [HROB.out]
        exact ⟨rfl, HBL.out⟩
end Go.Proofs.YtmneokkdkgflkaaDoor
