/- Contracts: fields are found by their names, by the program and by the reference. -/
import Derived.Test.YthfmmememdlekaaGreatDoorV29
set_option linter.unusedVariables false
set_option linter.unusedSimpArgs false
namespace Go.Proofs.YthfmmememdlekaaGreatDoor
open Go.RowKit Num

/-- The first field with a name. -/
def fstF (L : List Fld) (s : ByteArray) : Option Nat := (List.range L.length).find? fun k => decide ((fldAt L k).name = s)
theorem fstF_hit {L : List Fld} {s : ByteArray} {k : Nat} (hk : k < L.length) (h1 : (fldAt L k).name = s) (h2 : ∀ j, j < k → (fldAt L j).name ≠ s) : fstF L s = some k := by
  unfold fstF
  rw [List.find?_eq_some_iff_getElem]
  refine ⟨by simpa using h1, k, by simpa using hk, by simp, fun j hj => by simpa using h2 j hj⟩
theorem fstF_miss {L : List Fld} {s : ByteArray} (h : ∀ j, j < L.length → (fldAt L j).name ≠ s) : fstF L s = none := by
  unfold fstF
  rw [List.find?_eq_none]
  intro j hj
  simpa using h j (List.mem_range.1 hj)
def idxI : Option Nat → Int
  | some k => (k : Int)
  | none => -1
def FndE (L : List Fld) (s : ByteArray) (w : World) (e : Ending) (w' : World) : Prop := e = .returned (.tuple #[.int .i64 ((((fstF L s).getD 0 : Nat)) : Int), .bool (fstF L s).isSome]) ∧ Below w.heap.size w w'
theorem infoFd : (Tryz.prog.info? 58).map (fun i => (i.zero, i.size, i.bytes)) = some (some (.agg #[.string ⟨#[]⟩, .int .i64 0, .bool false, .int .i64 0, .int .i64 0, .slice none 0 0]), 6, 72) := by kernel_rfl
set_option maxRecDepth 100000 in
set_option maxHeartbeats 1000000 in
theorem f_sameN (nm s : ByteArray) (kd : Int) (nd : Bool) (le mo : Int) (A : Option Addr) (n c pb : Nat) (w : World) (hp : w.cell? ⟨pb, 0, none⟩ = some (.string s)) (hpb : pb < w.heap.size) (b : Bool) (hb : (nm.toList == s.toList) = b) :
    Calls Tryz.prog 58 #[.agg #[.string nm, .int .i64 kd, .bool nd, .int .i64 le, .int .i64 mo, .slice A n c], .pointer (some ⟨pb, 0, none⟩)] w (BoolBel b w) := by
  have hp2 : (w.alloc (.cells #[.string nm, .int .i64 kd, .bool nd, .int .i64 le, .int .i64 mo, .slice A n c] 58)).cell? ⟨pb, 0, none⟩ = some (.string s) := (World.cell?_alloc_lt w _ ⟨pb, 0, none⟩ hpb).trans hp
  cases b
  all_goals
    go_enter Tryz.func58, Tryz.ntmps58
    go_wp2_with fail
    go_ret
    exact ⟨rfl, (Below.refl _ _).alloc (Nat.le_refl _) _⟩
set_option maxRecDepth 100000 in
set_option maxHeartbeats 1000000 in
theorem s_IndexF (v : Value) (L : List Fld) (S : Nat → Prop) (s : ByteArray) (pb : Nat) (w : World) (hv : FldsAt w S v L) (hS : ∀ b, S b → b < w.heap.size) (hl : L.length ≤ 1000000) (hp : w.cell? ⟨pb, 0, none⟩ = some (.string s)) (hpb : pb < w.heap.size) :
    Calls Tryz.prog 57 #[v, .func (.func 58) #[] #[.pointer (some ⟨pb, 0, none⟩)]] w fun e w' => e = .returned (.int .i64 (idxI (fstF L s))) ∧ Below w.heap.size w w' := by
  obtain ⟨A, n, c, rfl, hn, hnc, hc⟩ := hv
  have HC := Lib.hid hc
  have HN := Lib.hid hn
  have HS := Lib.hid hS
  have HP := Lib.hid hp
  have hn1 : n ≤ 1000000 := by omega
  clear hc hn hS hl hp
  go_enter Tryz.func57, Tryz.ntmps57
  go_wp2_with fail
  go_loopw [8] (fun v8 wr => ∃ k : Nat, k ≤ n ∧ v8 = .int .i64 (k : Int) ∧ (∀ j, j < k → (fldAt L j).name ≠ s) ∧ Below w.heap.size w wr) (fun v8 _ => n - (intOf v8).toNat)
  case atStart => exact ⟨0, by omega, rfl, fun j hj => absurd hj (Nat.not_lt_zero _), Below.refl _ _⟩
  case round =>
    obtain ⟨k, hk, rfl, hne, hb⟩ := hrel
    have HNE := Lib.hid hne
    have HB := Lib.hid hb
    have hsz := hb.size
    clear hne hb
    by_cases hlt : k < n
    · obtain ⟨b, off, rfl, hSb, hcell⟩ := HC.out (by omega)
      have hbw := HS.out b hSb
      have hf := hcell k hlt
      have hhit := fun h1 => fstF_hit (L := L) (s := s) (k := k) (by have := HN.out; omega) h1 HNE.out
      have hstep : (fldAt L k).name ≠ s → ∀ j, j < k + 1 → (fldAt L j).name ≠ s := fun h j hj => by
        by_cases e : j = k
        · subst e; exact h
        · exact HNE.out j (by omega)
      obtain ⟨f, hfe⟩ : ∃ f, fldAt L k = f := ⟨_, rfl⟩
      rw [hfe] at hf hhit hstep
      obtain ⟨nm, kd, nd, le, mo, op⟩ := f
      have HH := Lib.hid hhit
      have HST := Lib.hid hstep
      clear hhit hstep hfe hcell
      obtain ⟨c0, c1, c2, c3, c4, u, c5, hu⟩ := hf
      obtain ⟨Au, nu, cu, rfl, -⟩ := hu
      have e0 : wr.cell? ⟨b, off + k * 6, none⟩ = _ := (HB.out.cell (p := ⟨b, off + k * 6, none⟩) hbw).trans c0
      have e1 : wr.cell? ⟨b, off + k * 6 + 1, none⟩ = _ := (HB.out.cell (p := ⟨b, off + k * 6 + 1, none⟩) hbw).trans c1
      have e2 : wr.cell? ⟨b, off + k * 6 + 2, none⟩ = _ := (HB.out.cell (p := ⟨b, off + k * 6 + 2, none⟩) hbw).trans c2
      have e3 : wr.cell? ⟨b, off + k * 6 + 3, none⟩ = _ := (HB.out.cell (p := ⟨b, off + k * 6 + 3, none⟩) hbw).trans c3
      have e4 : wr.cell? ⟨b, off + k * 6 + 4, none⟩ = _ := (HB.out.cell (p := ⟨b, off + k * 6 + 4, none⟩) hbw).trans c4
      have e5 : wr.cell? ⟨b, off + k * 6 + 5, none⟩ = _ := (HB.out.cell (p := ⟨b, off + k * 6 + 5, none⟩) hbw).trans c5
      have hp' : wr.cell? ⟨pb, 0, none⟩ = some (.string s) := (HB.out.cell (p := ⟨pb, 0, none⟩) hpb).trans HP.out
      have HP' := Lib.hid hp'
      have zi : (k : Int) < (n : Int) := by omega
      have z0 : (0 : Int) ≤ (k : Int) := by omega
      clear c0 c1 c2 c3 c4 c5 hp'
      by_cases hs : nm = s
      · have he := HH.out hs
        have HE := Lib.hid he
        have hq : (nm.toList == s.toList) = true := seq_true hs
        have HQ := Lib.hid hq
        clear he hs hq
        go_wp2_with fail
        refine (f_sameN nm s kd nd le mo Au nu cu pb _ HP'.out (by omega) true HQ.out).mono ?_
        rintro e w1 ⟨rfl, hb1⟩
        have HB1 := Lib.hid (HB.out.trans (hb1.mono (by omega)))
        clear hb1
        go_wp2_with fail
        go_ret
        exact ⟨by rw [HE.out]; rfl, HB1.out⟩
      · have hst := HST.out hs
        have HST2 := Lib.hid hst
        have hq : (nm.toList == s.toList) = false := seq_false (fun h => hs (blOf_inj h))
        have HQ := Lib.hid hq
        clear hst hs hq
        go_wp2_with fail
        refine (f_sameN nm s kd nd le mo Au nu cu pb _ HP'.out (by omega) false HQ.out).mono ?_
        rintro e w1 ⟨rfl, hb1⟩
        have HB1 := Lib.hid (HB.out.trans (hb1.mono (by omega)))
        clear hb1
        go_wp2_with fail
        go_roundw
        case measure => simp [intOf]; omega
        case rel => exact ⟨k + 1, by omega, by go_num, HST2.out, HB1.out⟩
    · have zi : ¬ (k : Int) < (n : Int) := by omega
      have he : fstF L s = none := fstF_miss fun j hj => HNE.out j (by have := HN.out; omega)
      have HE := Lib.hid he
      clear he
      go_wp2_with fail
      go_ret
      exact ⟨by rw [HE.out]; rfl, HB.out⟩
set_option maxRecDepth 100000 in
set_option maxHeartbeats 1000000 in
theorem f_Find (title s : ByteArray) (v : Value) (L : List Fld) (S : Nat → Prop) (w : World) (hv : FldsAt w S v L) (hS : ∀ b, S b → b < w.heap.size) (hl : L.length ≤ 1000000) :
    Calls Tryz.prog 25 #[.agg #[.string title, v], .string s] w (FndE L s w) := by
  obtain ⟨A, n, c, rfl, -⟩ := id hv
  have hb2 : Below w.heap.size w ((w.alloc (.cells #[.string title, .slice A n c] 55)).alloc (.cells #[.string s] 9)) := ((Below.refl _ _).alloc (Nat.le_refl _) _).alloc (by simp) _
  have hp : ((w.alloc (.cells #[.string title, .slice A n c] 55)).alloc (.cells #[.string s] 9)).cell? ⟨w.heap.size + 1, 0, none⟩ = some (.string s) := by
    have := (Blk.new (w.alloc (.cells #[.string title, .slice A n c] 55)) 9 #[.string s]).cell 0
    rw [World.size_alloc] at this
    exact this
  have hix := s_IndexF (.slice A n c) L S s (w.heap.size + 1) _ (hv.keep fun b hb => hb2.block b (hS b hb)) (fun b hb => Nat.lt_of_lt_of_le (hS b hb) hb2.size) hl hp (by simp)
  have HX := Lib.hid hix
  have HB2 := Lib.hid hb2
  clear hix hb2 hp hv
  cases hf : fstF L s with
  | none =>
    rw [hf] at HX
    have HF := Lib.hid hf
    clear hf
    rw [show idxI none = -1 from rfl] at HX
    go_enter Tryz.func25, Tryz.ntmps25
    go_wp2_with fail
    refine HX.out.mono ?_
    rintro e w1 ⟨rfl, hb1⟩
    have HB1 := Lib.hid (HB2.out.trans (hb1.mono HB2.out.size))
    have hm : max (-1 : Int) 0 = 0 := by decide
    clear hb1
    go_wp2_with fail
    go_ret2
    exact ⟨by rw [HF.out]; rfl, HB1.out⟩
  | some k =>
    rw [hf] at HX
    have HF := Lib.hid hf
    clear hf
    rw [show idxI (some k) = (k : Int) from rfl] at HX
    go_enter Tryz.func25, Tryz.ntmps25
    go_wp2_with fail
    refine HX.out.mono ?_
    rintro e w1 ⟨rfl, hb1⟩
    have HB1 := Lib.hid (HB2.out.trans (hb1.mono HB2.out.size))
    have hm : max (k : Int) 0 = (k : Int) := by omega
    have z0 : (0 : Int) ≤ (k : Int) := by omega
    clear hb1
    go_wp2_with fail
    go_ret2
    exact ⟨by rw [HF.out]; rfl, HB1.out⟩
set_option maxRecDepth 100000 in
set_option maxHeartbeats 1000000 in
theorem r_Find (title s : ByteArray) (v : Value) (L : List Fld) (S : Nat → Prop) (w : World) (hv : FldsAt w S v L) (hS : ∀ b, S b → b < w.heap.size) (hl : L.length ≤ 1000000) :
    Calls Tryz.prog 26 #[.agg #[.string title, v], .string s] w (FndE L s w) := by
  obtain ⟨A, n, c, rfl, hn, hnc, hc⟩ := hv
  have hb0 : Below w.heap.size w (w.alloc (.cells #[.string title, .slice A n c] 55)) := (Below.refl _ _).alloc (Nat.le_refl _) _
  have hs0 : (w.alloc (.cells #[.string title, .slice A n c] 55)).heap.size = w.heap.size + 1 := by simp
  have HB0 := Lib.hid hb0
  have HC := Lib.hid hc
  have HN := Lib.hid hn
  have HS := Lib.hid hS
  have hn1 : n ≤ 1000000 := by omega
  clear hc hn hS hl hb0
  go_enter Tryz.func26, Tryz.ntmps26
  go_wp2_with fail
  go_loopw [11] (fun v11 wr => ∃ k : Nat, k ≤ n ∧ v11 = .int .i64 (k : Int) ∧ (∀ j, j < k → (fldAt L j).name ≠ s) ∧ Below w.heap.size w wr) (fun v11 _ => n - (intOf v11).toNat)
  case atStart => exact ⟨0, by omega, rfl, fun j hj => absurd hj (Nat.not_lt_zero _), HB0.out⟩
  case round =>
    obtain ⟨k, hk, rfl, hne, hb⟩ := hrel
    have HNE := Lib.hid hne
    have HB := Lib.hid hb
    have hsz := hb.size
    clear hne hb
    by_cases hlt : k < n
    · obtain ⟨b, off, rfl, hSb, hcell⟩ := HC.out (by omega)
      have hbw := HS.out b hSb
      have hf := hcell k hlt
      have hhit := fun h1 => fstF_hit (L := L) (s := s) (k := k) (by have := HN.out; omega) h1 HNE.out
      have hstep : (fldAt L k).name ≠ s → ∀ j, j < k + 1 → (fldAt L j).name ≠ s := fun h j hj => by
        by_cases e : j = k
        · subst e; exact h
        · exact HNE.out j (by omega)
      obtain ⟨f, hfe⟩ : ∃ f, fldAt L k = f := ⟨_, rfl⟩
      rw [hfe] at hf hhit hstep
      obtain ⟨nm, kd, nd, le, mo, op⟩ := f
      have HH := Lib.hid hhit
      have HST := Lib.hid hstep
      clear hhit hstep hfe hcell
      obtain ⟨c0, c1, c2, c3, c4, u, c5, hu⟩ := hf
      obtain ⟨Au, nu, cu, rfl, -⟩ := hu
      have e0 : wr.cell? ⟨b, off + k * 6, none⟩ = _ := (HB.out.cell (p := ⟨b, off + k * 6, none⟩) hbw).trans c0
      have e1 : wr.cell? ⟨b, off + k * 6 + 1, none⟩ = _ := (HB.out.cell (p := ⟨b, off + k * 6 + 1, none⟩) hbw).trans c1
      have e2 : wr.cell? ⟨b, off + k * 6 + 2, none⟩ = _ := (HB.out.cell (p := ⟨b, off + k * 6 + 2, none⟩) hbw).trans c2
      have e3 : wr.cell? ⟨b, off + k * 6 + 3, none⟩ = _ := (HB.out.cell (p := ⟨b, off + k * 6 + 3, none⟩) hbw).trans c3
      have e4 : wr.cell? ⟨b, off + k * 6 + 4, none⟩ = _ := (HB.out.cell (p := ⟨b, off + k * 6 + 4, none⟩) hbw).trans c4
      have e5 : wr.cell? ⟨b, off + k * 6 + 5, none⟩ = _ := (HB.out.cell (p := ⟨b, off + k * 6 + 5, none⟩) hbw).trans c5
      have HB1 := Lib.hid (HB.out.alloc hsz (.cells #[.string nm, .int .i64 kd, .bool nd, .int .i64 le, .int .i64 mo, .slice Au nu cu] 58))
      have zi : (k : Int) < (n : Int) := by omega
      have z0 : (0 : Int) ≤ (k : Int) := by omega
      clear c0 c1 c2 c3 c4 c5
      by_cases hs : nm = s
      · have he := HH.out hs
        have HE := Lib.hid he
        have hq : (nm.toList == s.toList) = true := seq_true hs
        clear he hs
        go_wp2_with fail
        go_ret2
        exact ⟨by rw [HE.out]; rfl, HB1.out⟩
      · have hst := HST.out hs
        have HST2 := Lib.hid hst
        have hq : (nm.toList == s.toList) = false := seq_false (fun h => hs (blOf_inj h))
        clear hst hs
        go_wp2_with fail
        go_roundw
        case measure => simp [intOf]; omega
        case rel => exact ⟨k + 1, by omega, by go_num, HST2.out, HB1.out⟩
    · have zi : ¬ (k : Int) < (n : Int) := by omega
      have he : fstF L s = none := fstF_miss fun j hj => HNE.out j (by have := HN.out; omega)
      have HE := Lib.hid he
      clear he
      go_wp2_with fail
      go_ret2
      exact ⟨by rw [HE.out]; rfl, HB.out⟩
end Go.Proofs.YthfmmememdlekaaGreatDoor
