/- Contracts: the plays' choices of numbers, of primes and of plans; the kit's salt. Many lanes in one number, 64 bits each: what is reckoned on the whole is reckoned on each. The blocks of the sum, many lanes at once. -/
import Derived.Test.YtjfphobfikadlaaGreatDoorW10
import Derived.Test.YtjfphobfikadlaaGreatDoorW23
import Derived.Test.YtjfphobfikadlaaGreatDoorW17
import Derived.Laws.BitsLemmas
import Derived.Test.YtjfphobfikadlaaGreatDoorW13
import Derived.Lib.EndianBits
set_option linter.unusedVariables false
set_option linter.unusedSimpArgs false
namespace Go.Proofs.YtjfphobfikadlaaGreatDoor
open Go.RowKit Num

def OfPost (b : Nat) (zs : List Int) (w : World) (e : Ending) (w' : World) : Prop := ∃ r : Nat, r < zs.length ∧ e = .returned (.int .i64 (zs.getD r 0)) ∧ Dc w' b ∧ w.grownBy w' (some b)
set_option maxHeartbeats 1000000 in
theorem y_Of (b g n c : Nat) (zs : List Int) (w : World) (hd : Dc w b) (hg : g < w.heap.size) (hne : g ≠ b) (hn : n = zs.length) (h1 : 1 ≤ n) (h2 : n ≤ 1000000) (hc : ∀ i, i < n → w.cell? ⟨g, i, none⟩ = some (.int .i64 (zs.getD i 0))) :
    Calls Tryz.prog 33 #[.pointer (some ⟨b, 0, none⟩), .slice (some ⟨g, 0, none⟩) n c] w (OfPost b zs w) := by
  have HC := Lib.hid hc
  have HD := Lib.hid hd
  have HN := Lib.hid hn
  clear hc hd hn
  go_enter Tryz.func33, Tryz.ntmps33
  go_wp2_with fail
  refine (k_Next b n _ HD.out h1 (by omega)).mono ?_
  rintro e w1 ⟨r, hr, rfl, hd1, hg1⟩
  have hcell : w1.cell? ⟨g, r, none⟩ = some (.int .i64 (zs.getD r 0)) := (World.cell?_of_block (hg1.block g hg (by intro e; injection e with e; exact hne e))).trans (HC.out r hr)
  have HD1 := Lib.hid hd1
  have HG1 := Lib.hid hg1
  have qr : (r : Int) < (n : Int) := by omega
  have q0 : (0 : Int) ≤ (r : Int) := by omega
  clear hd1 hg1
  go_wp2_with fail
  go_ret
  exact ⟨r, by rw [← HN.out]; exact hr, rfl, HD1.out, HG1.out⟩
/-- The plays' safe primes. -/
def PlayP (p : Nat) : Prop := p = 11 ∨ p = 23 ∨ p = 500000003 ∨ p = 29 ∨ p = 53 ∨ p = 83
theorem PlayP.prm {p : Nat} (h : PlayP p) : Prm p ∧ 11 ≤ p ∧ p ≤ 500000003 := by
  rcases h with rfl | rfl | rfl | rfl | rfl | rfl
  all_goals exact ⟨safe_prm (by unfold Num.Safe; decide), by decide, by decide⟩
def PlaySafePost (b : Nat) (w : World) (e : Ending) (w' : World) : Prop := ∃ p : Nat, PlayP p ∧ e = .returned (.int .i64 (p : Int)) ∧ Dc w' b ∧ w.grownBy w' (some b)
set_option maxHeartbeats 1000000 in
theorem y_Safe (b : Nat) (w : World) (hd : Dc w b) :
    Calls Tryz.prog 19 #[.pointer (some ⟨b, 0, none⟩)] w (PlaySafePost b w) := by
  have hlt := hd.lt
  have kb : Blk (w.alloc (.cells #[.int .i64 11, .int .i64 23, .int .i64 500000003, .int .i64 29, .int .i64 53, .int .i64 83] 3)) w.heap.size 3 #[.int .i64 11, .int .i64 23, .int .i64 500000003, .int .i64 29, .int .i64 53, .int .i64 83] := Blk.new w _ _
  have ho := y_Of b w.heap.size 6 6 [11, 23, 500000003, 29, 53, 83] _ (hd.alloc (.cells #[.int .i64 11, .int .i64 23, .int .i64 500000003, .int .i64 29, .int .i64 53, .int .i64 83] 3)) (by simp) (by omega) rfl (by decide) (by decide) (fun i hi => by
    rw [kb.cell i]
    match i, hi with
    | 0, _ => rfl
    | 1, _ => rfl
    | 2, _ => rfl
    | 3, _ => rfl
    | 4, _ => rfl
    | 5, _ => rfl)
  have HO := Lib.hid ho
  clear ho kb hd
  go_enter Tryz.func19, Tryz.ntmps19
  go_wp2_with fail
  refine HO.out.mono ?_
  rintro e w1 ⟨r, hr, rfl, hd1, hg1⟩
  have hz : ∃ p : Nat, PlayP p ∧ [(11 : Int), 23, 500000003, 29, 53, 83].getD r 0 = (p : Int) := by
    have hr6 : r < 6 := hr
    match r, hr6 with
    | 0, _ => exact ⟨11, by unfold PlayP; omega, rfl⟩
    | 1, _ => exact ⟨23, by unfold PlayP; omega, rfl⟩
    | 2, _ => exact ⟨500000003, by unfold PlayP; omega, rfl⟩
    | 3, _ => exact ⟨29, by unfold PlayP; omega, rfl⟩
    | 4, _ => exact ⟨53, by unfold PlayP; omega, rfl⟩
    | 5, _ => exact ⟨83, by unfold PlayP; omega, rfl⟩
  obtain ⟨p, hp, he⟩ := hz
  rw [he]
  have HP := Lib.hid hp
  have HD1 := Lib.hid hd1
  have HG1 := Lib.hid hg1
  clear hp hd1 hg1 he hr
  go_wp2_with fail
  go_ret
  exact ⟨p, HP.out, rfl, HD1.out, gb_trans (only_alloc (World.grownBy.refl w _) _) HG1.out⟩
def PlayPlanPost (b p : Nat) (w : World) (e : Ending) (w' : World) : Prop :=
  ∃ need hold : Nat, 1 ≤ need ∧ need ≤ hold ∧ hold ≤ 5 ∧ need ≤ 3 ∧ e = .returned (planV p need hold) ∧ Dc w' b ∧ w.grownBy w' (some b)
set_option maxRecDepth 100000 in
set_option maxHeartbeats 1000000 in
theorem y_Plan (b p : Nat) (w : World) (hd : Dc w b) (h2 : p ≤ 1073741824) :
    Calls Tryz.prog 18 #[.pointer (some ⟨b, 0, none⟩), .int .i64 (p : Int)] w (PlayPlanPost b p w) := by
  have hlt := hd.lt
  have ho1 : ∀ (W : World), Dc W b → Calls Tryz.prog 33 #[.pointer (some ⟨b, 0, none⟩), .slice (some ⟨W.heap.size, 0, none⟩) 5 5] (W.alloc (.cells #[.int .i64 4, .int .i64 3, .int .i64 5, .int .i64 2, .int .i64 1] 3)) fun e w' => ∃ h : Nat, 1 ≤ h ∧ h ≤ 5 ∧ e = .returned (.int .i64 (h : Int)) ∧ Dc w' b ∧ (W.alloc (.cells #[.int .i64 4, .int .i64 3, .int .i64 5, .int .i64 2, .int .i64 1] 3)).grownBy w' (some b) := fun W hW => by
    have kb : Blk (W.alloc (.cells #[.int .i64 4, .int .i64 3, .int .i64 5, .int .i64 2, .int .i64 1] 3)) W.heap.size 3 #[.int .i64 4, .int .i64 3, .int .i64 5, .int .i64 2, .int .i64 1] := Blk.new W _ _
    refine (y_Of b W.heap.size 5 5 [4, 3, 5, 2, 1] _ (hW.alloc _) (by simp) (by have := hW.lt; omega) rfl (by decide) (by decide) (fun i hi => by
      rw [kb.cell i]
      match i, hi with
      | 0, _ => rfl
      | 1, _ => rfl
      | 2, _ => rfl
      | 3, _ => rfl
      | 4, _ => rfl)).mono ?_
    rintro e w1 ⟨r, hr, rfl, hd1, hg1⟩
    have hr6 : r < 5 := hr
    match r, hr6 with
    | 0, _ => exact ⟨4, by omega, by omega, rfl, hd1, hg1⟩
    | 1, _ => exact ⟨3, by omega, by omega, rfl, hd1, hg1⟩
    | 2, _ => exact ⟨5, by omega, by omega, rfl, hd1, hg1⟩
    | 3, _ => exact ⟨2, by omega, by omega, rfl, hd1, hg1⟩
    | 4, _ => exact ⟨1, by omega, by omega, rfl, hd1, hg1⟩
  have ho2 : ∀ (W : World), Dc W b → Calls Tryz.prog 33 #[.pointer (some ⟨b, 0, none⟩), .slice (some ⟨W.heap.size, 0, none⟩) 4 4] (W.alloc (.cells #[.int .i64 2, .int .i64 2, .int .i64 1, .int .i64 3] 3)) fun e w' => ∃ h : Nat, 1 ≤ h ∧ h ≤ 3 ∧ e = .returned (.int .i64 (h : Int)) ∧ Dc w' b ∧ (W.alloc (.cells #[.int .i64 2, .int .i64 2, .int .i64 1, .int .i64 3] 3)).grownBy w' (some b) := fun W hW => by
    have kb : Blk (W.alloc (.cells #[.int .i64 2, .int .i64 2, .int .i64 1, .int .i64 3] 3)) W.heap.size 3 #[.int .i64 2, .int .i64 2, .int .i64 1, .int .i64 3] := Blk.new W _ _
    refine (y_Of b W.heap.size 4 4 [2, 2, 1, 3] _ (hW.alloc _) (by simp) (by have := hW.lt; omega) rfl (by decide) (by decide) (fun i hi => by
      rw [kb.cell i]
      match i, hi with
      | 0, _ => rfl
      | 1, _ => rfl
      | 2, _ => rfl
      | 3, _ => rfl)).mono ?_
    rintro e w1 ⟨r, hr, rfl, hd1, hg1⟩
    have hr6 : r < 4 := hr
    match r, hr6 with
    | 0, _ => exact ⟨2, by omega, by omega, rfl, hd1, hg1⟩
    | 1, _ => exact ⟨2, by omega, by omega, rfl, hd1, hg1⟩
    | 2, _ => exact ⟨1, by omega, by omega, rfl, hd1, hg1⟩
    | 3, _ => exact ⟨3, by omega, by omega, rfl, hd1, hg1⟩
  have HO1 := Lib.hid ho1
  have HO2 := Lib.hid ho2
  have HD := Lib.hid hd
  have kr0 : Blk (w.alloc (.cells #[.int .i64 0, .int .i64 0, .int .i64 0] 34)) w.heap.size 34 #[.int .i64 0, .int .i64 0, .int .i64 0] := Blk.new w _ _
  have HD0 := Lib.hid (hd.alloc (.cells #[.int .i64 0, .int .i64 0, .int .i64 0] 34))
  have KR0 := Lib.hid kr0
  have HG0 := Lib.hid (only_alloc (World.grownBy.refl w (some b)) (.cells #[.int .i64 0, .int .i64 0, .int .i64 0] 34))
  clear ho1 ho2 hd kr0
  go_enter Tryz.func18, Tryz.ntmps18
  go_upto_region 1 with fail
  generalize w.alloc (.cells #[.int .i64 0, .int .i64 0, .int .i64 0] 34) = w0 at *
  go_wp2_with fail
  refine (HO1.out _ HD0.out).mono ?_
  rintro e w1 ⟨h, h1, h5, rfl, hd1, hg1⟩
  have hz0 := KR0.out.lt
  have hg1' := gb_trans (only_alloc (World.grownBy.refl w0 (some b)) _) hg1
  have KR1 := Lib.hid (KR0.out.grown hg1' (by intro e; injection e with e; omega))
  have HD1 := Lib.hid hd1
  have HG1 := Lib.hid (gb_trans HG0.out hg1')
  clear hd1 hg1 hg1'
  go_wp2_with fail
  refine (HO2.out _ HD1.out).mono ?_
  rintro e w2 ⟨v, v1, v3, rfl, hd2, hg2⟩
  have hg2' := gb_trans (only_alloc (World.grownBy.refl w1 (some b)) _) hg2
  have hz1 := KR1.out.lt
  have hb2 := KR1.out.grown hg2' (by intro e; injection e with e; omega)
  have HG2 := Lib.hid (gb_trans HG1.out hg2')
  have c0 : w2.cell? ⟨w.heap.size, 0, none⟩ = some (.int .i64 0) := hb2.cell 0
  have c1 : w2.cell? ⟨w.heap.size, 1, none⟩ = some (.int .i64 0) := hb2.cell 1
  have c2 : w2.cell? ⟨w.heap.size, 2, none⟩ = some (.int .i64 0) := hb2.cell 2
  have f0 := hb2.frozen 0
  have f1 := hb2.frozen 1
  have f2 := hb2.frozen 2
  have HB2 := Lib.hid hb2
  have HD2 := Lib.hid hd2
  obtain ⟨m, hm⟩ : ∃ m, min h v = m := ⟨_, rfl⟩
  have hmin : min (h : Int) (v : Int) = (m : Int) := by omega
  have hm1 : 1 ≤ m ∧ m ≤ h ∧ m ≤ 3 := by omega
  clear hb2 hg2 hg2' hd2 hm
  go_wp2_with fail
  have hb3 := ((HB2.out.set_ 0 (.int .i64 (p : Int))).set_ 1 (.int .i64 (m : Int))).set_ 2 (.int .i64 (h : Int))
  have hg3 : w.grownBy _ (some b) := only_setCell (only_setCell (only_setCell HG2.out (p := ⟨w.heap.size, 0, none⟩) (.inr (Nat.le_refl _)) (.int .i64 (p : Int))) (p := ⟨w.heap.size, 1, none⟩) (.inr (Nat.le_refl _)) (.int .i64 (m : Int))) (p := ⟨w.heap.size, 2, none⟩) (.inr (Nat.le_refl _)) (.int .i64 (h : Int))
  have hd3 : Dc (((w2.setCell ⟨w.heap.size, 0, none⟩ (.int .i64 (p : Int))).setCell ⟨w.heap.size, 1, none⟩ (.int .i64 (m : Int))).setCell ⟨w.heap.size, 2, none⟩ (.int .i64 (h : Int))) b :=
    HD2.out.keep fun i hi => ((Below.heap_setCell _ _ _ i (by simp; omega)).trans (Below.heap_setCell _ _ _ i (by simp; omega))).trans (Below.heap_setCell _ _ _ i (by simp; omega))
  generalize ((w2.setCell ⟨w.heap.size, 0, none⟩ (.int .i64 (p : Int))).setCell ⟨w.heap.size, 1, none⟩ (.int .i64 (m : Int))).setCell ⟨w.heap.size, 2, none⟩ (.int .i64 (h : Int)) = w3 at *
  have d0 : w3.cell? ⟨w.heap.size, 0, none⟩ = some (.int .i64 (p : Int)) := hb3.cell 0
  have d1 : w3.cell? ⟨w.heap.size, 1, none⟩ = some (.int .i64 (m : Int)) := hb3.cell 1
  have d2 : w3.cell? ⟨w.heap.size, 2, none⟩ = some (.int .i64 (h : Int)) := hb3.cell 2
  exact bodyPost_ret (v := .agg #[.int .i64 (p : Int), .int .i64 (m : Int), .int .i64 (h : Int)]) (by simp [results, Tryz.results18, go_sem, d0, d1, d2]) rfl ⟨m, h, hm1.1, hm1.2.1, h5, hm1.2.2, rfl, hd3, hg3⟩
def SaltPost (b : Nat) (w : World) (e : Ending) (w' : World) : Prop := ∃ s : ByteArray, s.size = 16 ∧ e = .returned (.string s) ∧ Dc w' b ∧ w.grownBy w' (some b)
set_option maxRecDepth 100000 in
set_option maxHeartbeats 1000000 in
theorem k_Salt (b : Nat) (w : World) (hd : Dc w b) :
    Calls Tryz.prog 20 #[.pointer (some ⟨b, 0, none⟩)] w (SaltPost b w) := by
  have hlt := hd.lt
  have kb : Blk (w.alloc (.cells #[.string ⟨#[97]⟩, .string ⟨#[98]⟩, .string ⟨#[99]⟩] 9)) w.heap.size 9 #[.string ⟨#[97]⟩, .string ⟨#[98]⟩, .string ⟨#[99]⟩] := Blk.new w _ _
  obtain ⟨ss, hss, hsm⟩ : ∃ ss : Nat → ByteArray, (∀ i, i < 3 → (w.alloc (.cells #[.string ⟨#[97]⟩, .string ⟨#[98]⟩, .string ⟨#[99]⟩] 9)).cell? ⟨w.heap.size, 0 + i, none⟩ = some (.string (ss i))) ∧ ∀ r, r < 3 → (ss r).size = 1 := by
    refine ⟨fun i => if i = 0 then ⟨#[97]⟩ else if i = 1 then ⟨#[98]⟩ else ⟨#[99]⟩, fun i hi => ?_, fun r hr => ?_⟩
    · rw [Nat.zero_add, kb.cell i]
      match i, hi with
      | 0, _ => rfl
      | 1, _ => rfl
      | 2, _ => rfl
    · match r, hr with
      | 0, _ => rfl
      | 1, _ => rfl
      | 2, _ => rfl
  have ho := k_Word b w.heap.size 0 3 3 ss _ (hd.alloc (.cells #[.string ⟨#[97]⟩, .string ⟨#[98]⟩, .string ⟨#[99]⟩] 9)) (by simp) (by omega) (by decide) (by decide) hss
  have HO := Lib.hid ho
  have HS := Lib.hid hsm
  clear ho kb hd hsm hss
  go_enter Tryz.func20, Tryz.ntmps20
  go_wp2_with fail
  refine HO.out.mono ?_
  rintro e w1 ⟨r, hr, rfl, hd1, hg1⟩
  have hsz := HS.out r hr
  generalize ss r = q at *
  have hz : ((⟨#[115, 97, 108, 116]⟩ : ByteArray) ++ q).size < 4294967296 := by rw [ByteArray.size_append, hsz]; decide
  have hs := rf_Sum ((⟨#[115, 97, 108, 116]⟩ : ByteArray) ++ q) w1 hz
  have HSU := Lib.hid hs
  have HD1 := Lib.hid hd1
  have HG1 := Lib.hid hg1
  clear hd1 hg1 hs hz
  go_wp2_with fail
  refine HSU.out.mono ?_
  rintro e w2 ⟨rfl, hb2⟩
  have h32 := shaOf_size ((⟨#[115, 97, 108, 116]⟩ : ByteArray) ++ q)
  have HD2 := Lib.hid (HD1.out.below hb2 HD1.out.lt)
  have HG2 := Lib.hid (gb_trans HG1.out (only_of_below hb2 _))
  clear hb2
  generalize shaOf ((⟨#[115, 97, 108, 116]⟩ : ByteArray) ++ q) = z at *
  go_wp2_with fail
  go_ret
  exact ⟨_, by rw [ByteArray.size_extract]; omega, rfl, HD2.out, gb_trans (only_alloc (World.grownBy.refl w _) _) HG2.out⟩
end Go.Proofs.YtjfphobfikadlaaGreatDoor
namespace Go.Proofs.YtjfphobfikadlaaGreatDoor.Lane

/-- So many lanes in one number. -/
def pk : Nat → (Nat → Nat) → Nat
  | 0, _ => 0
  | n + 1, f => f 0 + 18446744073709551616 * pk n fun i => f (i + 1)
theorem pk_congr : ∀ (n : Nat) (f g : Nat → Nat), (∀ i, i < n → f i = g i) → pk n f = pk n g
  | 0, _, _, _ => rfl
  | n + 1, f, g, h => by
    show f 0 + _ * pk n _ = g 0 + _ * pk n _
    rw [h 0 (by omega), pk_congr n _ _ fun i hi => h (i + 1) (by omega)]
theorem pk_add : ∀ (n : Nat) (f g : Nat → Nat), pk n f + pk n g = pk n fun i => f i + g i
  | 0, _, _ => rfl
  | n + 1, f, g => by
    show f 0 + _ * pk n _ + (g 0 + _ * pk n _) = f 0 + g 0 + _ * pk n _
    rw [← pk_add n (fun i => f (i + 1)) (fun i => g (i + 1))]
    omega
theorem pk_mul (c : Nat) : ∀ (n : Nat) (f : Nat → Nat), pk n f * c = pk n fun i => f i * c
  | 0, _ => Nat.zero_mul c
  | n + 1, f => by
    show (f 0 + _ * pk n _) * c = f 0 * c + _ * pk n _
    rw [← pk_mul c n (fun i => f (i + 1)), Nat.add_mul, Nat.mul_assoc]
theorem two64 : (18446744073709551616 : Nat) = 2 ^ 64 := by decide
theorem split64 (x X : Nat) (hx : x < 18446744073709551616) : (x + 18446744073709551616 * X) % 2 ^ 64 = x ∧ (x + 18446744073709551616 * X) / 2 ^ 64 = X := by
  rw [← two64]; omega
theorem join64 (N x X : Nat) (h1 : N % 2 ^ 64 = x) (h2 : N / 2 ^ 64 = X) : N = x + 18446744073709551616 * X := by
  rw [← two64] at h1 h2; omega
theorem and_step (x y X Y : Nat) (hx : x < 18446744073709551616) (hy : y < 18446744073709551616) :
    (x + 18446744073709551616 * X) &&& (y + 18446744073709551616 * Y) = (x &&& y) + 18446744073709551616 * (X &&& Y) := by
  refine join64 _ _ _ ?_ ?_
  · rw [Nat.and_mod_two_pow, (split64 x X hx).1, (split64 y Y hy).1]
  · rw [Nat.and_div_two_pow, (split64 x X hx).2, (split64 y Y hy).2]
theorem xor_step (x y X Y : Nat) (hx : x < 18446744073709551616) (hy : y < 18446744073709551616) :
    (x + 18446744073709551616 * X) ^^^ (y + 18446744073709551616 * Y) = (x ^^^ y) + 18446744073709551616 * (X ^^^ Y) := by
  refine join64 _ _ _ ?_ ?_
  · rw [Nat.xor_mod_two_pow, (split64 x X hx).1, (split64 y Y hy).1]
  · rw [Nat.xor_div_two_pow, (split64 x X hx).2, (split64 y Y hy).2]
theorem pk_and : ∀ (n : Nat) (f g : Nat → Nat), (∀ i, i < n → f i < 18446744073709551616) → (∀ i, i < n → g i < 18446744073709551616) → pk n f &&& pk n g = pk n fun i => f i &&& g i
  | 0, _, _, _, _ => Nat.and_zero 0
  | n + 1, f, g, hf, hg => by
    show (f 0 + _ * pk n _) &&& (g 0 + _ * pk n _) = (f 0 &&& g 0) + _ * pk n _
    rw [and_step _ _ _ _ (hf 0 (by omega)) (hg 0 (by omega)), pk_and n _ _ (fun i hi => hf (i + 1) (by omega)) (fun i hi => hg (i + 1) (by omega))]
theorem pk_xor : ∀ (n : Nat) (f g : Nat → Nat), (∀ i, i < n → f i < 18446744073709551616) → (∀ i, i < n → g i < 18446744073709551616) → pk n f ^^^ pk n g = pk n fun i => f i ^^^ g i
  | 0, _, _, _, _ => Nat.xor_zero 0
  | n + 1, f, g, hf, hg => by
    show (f 0 + _ * pk n _) ^^^ (g 0 + _ * pk n _) = (f 0 ^^^ g 0) + _ * pk n _
    rw [xor_step _ _ _ _ (hf 0 (by omega)) (hg 0 (by omega)), pk_xor n _ _ (fun i hi => hf (i + 1) (by omega)) (fun i hi => hg (i + 1) (by omega))]
/-- The mask of a lane. -/
abbrev msk : Nat := 4294967295
theorem and_msk (x : Nat) : x &&& msk = x % 4294967296 := Nat.and_two_pow_sub_one_eq_mod x 32
theorem pk_shr (k : Nat) (hk : k ≤ 32) : ∀ (n : Nat) (f : Nat → Nat), (∀ i, i < n → f i < 18446744073709551616) → (pk n f >>> k) &&& pk n (fun _ => msk) = pk n fun i => (f i >>> k) &&& msk
  | 0, _, _ => by
    show (0 >>> k) &&& 0 = 0
    rw [Nat.and_zero]
  | n + 1, f, hf => by
    have ih := pk_shr k hk n (fun i => f (i + 1)) fun i hi => hf (i + 1) (by omega)
    have h0 := hf 0 (by omega)
    show ((f 0 + _ * pk n _) >>> k) &&& (msk + 18446744073709551616 * pk n fun _ => msk) = (f 0 >>> k &&& msk) + 18446744073709551616 * pk n fun i => (f (i + 1) >>> k) &&& msk
    rw [← ih]
    generalize pk n (fun i => f (i + 1)) = P
    generalize pk n (fun _ => msk) = M
    generalize f 0 = x at *
    refine join64 _ _ _ ?_ ?_
    · rw [Nat.and_mod_two_pow, (split64 msk M (by decide)).1, and_msk, and_msk, Nat.shiftRight_eq_div_pow, Nat.shiftRight_eq_div_pow]
      have h64 : (18446744073709551616 : Nat) = 2 ^ k * 2 ^ (64 - k) := by rw [← Nat.pow_add, show k + (64 - k) = 64 by omega, two64]
      have h32 : ∃ c, 2 ^ (64 - k) = 4294967296 * c := ⟨2 ^ (32 - k), by rw [show (4294967296 : Nat) = 2 ^ 32 from by decide, ← Nat.pow_add, show 32 + (32 - k) = 64 - k by omega]⟩
      have e : (x + 18446744073709551616 * P) / 2 ^ k = x / 2 ^ k + 2 ^ (64 - k) * P := by
        rw [h64, Nat.mul_assoc, Nat.add_mul_div_left _ _ (Nat.two_pow_pos k)]
      obtain ⟨c, hc⟩ := h32
      rw [e, hc, ← two64]
      have h1 : ∀ a : Nat, a % 18446744073709551616 % 4294967296 = a % 4294967296 := fun a => by omega
      rw [h1, Nat.mul_assoc, Nat.add_mul_mod_self_left]
    · rw [Nat.and_div_two_pow, (split64 msk M (by decide)).2]
      have : (x + 18446744073709551616 * P) >>> k / 2 ^ 64 = P >>> k := by
        rw [Nat.shiftRight_eq_div_pow, Nat.shiftRight_eq_div_pow, Nat.div_div_eq_div_mul, Nat.mul_comm (2 ^ k), ← Nat.div_div_eq_div_mul, (split64 x P h0).2]
      rw [this]
theorem pk_lane {n : Nat} {f g : Nat → Nat} (hf : ∀ i, i < n → f i < 18446744073709551616) (hg : ∀ i, i < n → g i < 18446744073709551616) (h : pk n f = pk n g) : ∀ i, i < n → f i = g i := by
  induction n generalizing f g with
  | zero => intro i hi; omega
  | succ n ih =>
    intro i hi
    have h0 := hf 0 (by omega)
    have h1 := hg 0 (by omega)
    change f 0 + 18446744073709551616 * pk n _ = g 0 + 18446744073709551616 * pk n _ at h
    cases i with
    | zero => omega
    | succ i =>
      exact ih (f := fun i => f (i + 1)) (g := fun i => g (i + 1)) (fun i hi => hf (i + 1) (by omega)) (fun i hi => hg (i + 1) (by omega)) (by omega) i (by omega)
end Go.Proofs.YtjfphobfikadlaaGreatDoor.Lane
namespace Go.Proofs.YtjfphobfikadlaaGreatDoor.Lane
open Go.RowKit

/-- Reckon a number, then go on with it. -/
noncomputable def fr {α : Type} (n : Nat) (f : Nat → α) : α := Nat.rec (f 0) (fun m _ => f (Nat.succ m)) n
theorem fr_eq {α : Type} (n : Nat) (f : Nat → α) : fr n f = f n := by cases n <;> rfl
def rotM (m x k : Nat) : Nat := Nat.land (Nat.shiftRight (Nat.mul x 4294967297) k) m
def sgM (m x a b c : Nat) : Nat := Nat.xor (Nat.xor (rotM m x a) (rotM m x b)) (rotM m x c)
def slM (m x a b c : Nat) : Nat := Nat.xor (Nat.xor (rotM m x a) (rotM m x b)) (Nat.land (Nat.shiftRight x c) m)
def nwM (m w0 w1 w9 w14 : Nat) : Nat := Nat.land (Nat.add (Nat.add (Nat.add (slM m w14 17 19 10) w9) (slM m w1 7 18 3)) w0) m
def t1M (m e f g h k w : Nat) : Nat := Nat.land (Nat.add (Nat.add (Nat.add (Nat.add h (sgM m e 6 11 25)) (Nat.xor (Nat.land e f) (Nat.land (Nat.xor m e) g))) k) w) m
def t2M (m a b c : Nat) : Nat := Nat.land (Nat.add (sgM m a 2 13 22) (Nat.xor (Nat.xor (Nat.land a b) (Nat.land a c)) (Nat.land b c))) m
def adM (m x y : Nat) : Nat := Nat.land (Nat.add x y) m

/-- X holds the lanes f, each below B. -/
def PB (n X : Nat) (f : Nat → Nat) (B : Nat) : Prop := X = pk n f ∧ ∀ i, i < n → f i < B
abbrev PW (n X : Nat) (f : Nat → Nat) : Prop := PB n X f 4294967296
def mk (n : Nat) : Nat := pk n fun _ => msk
section
variable {n X Y : Nat} {f g : Nat → Nat}
theorem PB.up {B C : Nat} (h : PB n X f B) (hBC : B ≤ C) : PB n X f C := ⟨h.1, fun i hi => Nat.lt_of_lt_of_le (h.2 i hi) hBC⟩
theorem PB.add {B C : Nat} (h : PB n X f B) (k : PB n Y g C) : PB n (Nat.add X Y) (fun i => Nat.add (f i) (g i)) (B + C) := by
  refine ⟨?_, fun i hi => ?_⟩
  · rw [h.1, k.1]; exact pk_add n f g
  · have h1 := h.2 i hi
    have h2 := k.2 i hi
    show f i + g i < B + C
    omega
theorem PB.and (h : PW n X f) (k : PW n Y g) : PW n (Nat.land X Y) (fun i => Nat.land (f i) (g i)) := by
  refine ⟨?_, fun i hi => ?_⟩
  · rw [h.1, k.1]; exact pk_and n f g (fun i hi => Nat.lt_of_lt_of_le (h.2 i hi) (by decide)) (fun i hi => Nat.lt_of_lt_of_le (k.2 i hi) (by decide))
  · exact Nat.lt_of_le_of_lt Nat.and_le_left (h.2 i hi)
theorem PB.xor (h : PW n X f) (k : PW n Y g) : PW n (Nat.xor X Y) (fun i => Nat.xor (f i) (g i)) := by
  refine ⟨?_, fun i hi => ?_⟩
  · rw [h.1, k.1]; exact pk_xor n f g (fun i hi => Nat.lt_of_lt_of_le (h.2 i hi) (by decide)) (fun i hi => Nat.lt_of_lt_of_le (k.2 i hi) (by decide))
  · exact Nat.xor_lt_two_pow (n := 32) (h.2 i hi) (k.2 i hi)
theorem and_lt (x : Nat) : Nat.land x msk < 4294967296 := by
  have : Nat.land x msk = x % 4294967296 := and_msk x
  omega
theorem PB.mask (h : PB n X f 18446744073709551616) : PW n (Nat.land X (mk n)) (fun i => Nat.land (f i) msk) := by
  refine ⟨?_, fun i hi => and_lt _⟩
  rw [h.1]; exact pk_and n f _ h.2 (fun i hi => by decide)
theorem PB.shr (h : PB n X f 18446744073709551616) (k : Nat) (hk : k ≤ 32) : PW n (Nat.land (Nat.shiftRight X k) (mk n)) (fun i => Nat.land (Nat.shiftRight (f i) k) msk) := by
  refine ⟨?_, fun i hi => and_lt _⟩
  rw [h.1]; exact pk_shr k hk n f h.2
theorem PB.rot (h : PW n X f) (k : Nat) (hk : k ≤ 32) : PW n (rotM (mk n) X k) (fun i => rotM msk (f i) k) := by
  have : PB n (Nat.mul X 4294967297) (fun i => Nat.mul (f i) 4294967297) 18446744073709551616 := by
    refine ⟨?_, fun i hi => ?_⟩
    · rw [h.1]; exact pk_mul _ n f
    · have := h.2 i hi
      show f i * 4294967297 < _
      omega
  exact this.shr k hk
theorem PB.sg (h : PW n X f) (a b c : Nat) (ha : a ≤ 32) (hb : b ≤ 32) (hc : c ≤ 32) : PW n (sgM (mk n) X a b c) (fun i => sgM msk (f i) a b c) := ((h.rot a ha).xor (h.rot b hb)).xor (h.rot c hc)
theorem PB.sl (h : PW n X f) (a b c : Nat) (ha : a ≤ 32) (hb : b ≤ 32) (hc : c ≤ 32) : PW n (slM (mk n) X a b c) (fun i => slM msk (f i) a b c) := ((h.rot a ha).xor (h.rot b hb)).xor ((h.up (by decide)).shr c hc)
theorem PB.ad (h : PW n X f) (k : PW n Y g) : PW n (adM (mk n) X Y) (fun i => adM msk (f i) (g i)) := ((h.add k).up (by decide)).mask
theorem pw_mk : PW n (mk n) (fun _ => msk) := ⟨rfl, fun i hi => (by decide : msk < 4294967296)⟩
theorem pw_const (c : Nat) (hc : c < 4294967296) : PW n (Nat.mul c (pk n fun _ => 1)) (fun _ => c) := by
  refine ⟨?_, fun i hi => hc⟩
  show c * pk n _ = _
  rw [Nat.mul_comm, pk_mul]
  exact pk_congr n _ _ fun i hi => Nat.one_mul c
theorem PB.nw {w0 w1 w9 w14 : Nat} {f0 f1 f9 f14 : Nat → Nat} (h0 : PW n w0 f0) (h1 : PW n w1 f1) (h9 : PW n w9 f9) (h14 : PW n w14 f14) : PW n (nwM (mk n) w0 w1 w9 w14) (fun i => nwM msk (f0 i) (f1 i) (f9 i) (f14 i)) :=
  (((((h14.sl 17 19 10 (by decide) (by decide) (by decide)).add h9).add (h1.sl 7 18 3 (by decide) (by decide) (by decide))).add h0).up (by decide)).mask
theorem PB.t1 {e f' g' h' k' w' : Nat} {fe ff fg fh fk fw : Nat → Nat} (he : PW n e fe) (hf : PW n f' ff) (hg : PW n g' fg) (hh : PW n h' fh) (hk : PW n k' fk) (hw : PW n w' fw) : PW n (t1M (mk n) e f' g' h' k' w') (fun i => t1M msk (fe i) (ff i) (fg i) (fh i) (fk i) (fw i)) :=
  (((((hh.add (he.sg 6 11 25 (by decide) (by decide) (by decide))).add ((he.and hf).xor ((pw_mk.xor he).and hg))).add hk).add hw).up (by decide)).mask
theorem PB.t2 {a b c : Nat} {fa fb fc : Nat → Nat} (ha : PW n a fa) (hb : PW n b fb) (hc : PW n c fc) : PW n (t2M (mk n) a b c) (fun i => t2M msk (fa i) (fb i) (fc i)) :=
  (((ha.sg 2 13 22 (by decide) (by decide) (by decide)).add (((ha.and hb).xor (ha.and hc)).xor (hb.and hc))).up (by decide)).mask
end

/- One lane: as the sum's contract reckons it. -/
theorem xor_nat (a b : Nat) (ha : a < 4294967296) (hb : b < 4294967296) : bits .xor .u32 (a : Int) (b : Int) = ((Nat.xor a b : Nat) : Int) := by
  have h : a ^^^ b < 2 ^ 32 := Nat.xor_lt_two_pow ha hb
  have ha' : a % 2 ^ IntKind.u32.bits = a := Nat.mod_eq_of_lt ha
  have hb' : b % 2 ^ IntKind.u32.bits = b := Nat.mod_eq_of_lt hb
  simp only [bits, BitVec.ofInt_natCast, BitVec.toNat_xor, BitVec.toNat_ofNat, ha', hb']
  exact wraps_u32 _ (Int.natCast_nonneg _) (by exact_mod_cast h)
theorem and_nat (a b : Nat) (ha : a < 4294967296) (hb : b < 4294967296) : bits .and .u32 (a : Int) (b : Int) = ((Nat.land a b : Nat) : Int) :=
  (bits_nat .u32 32 (by decide) wraps_u32 a b ha hb).1
theorem rot_nat (x k : Nat) (hx : x < 4294967296) (hk : k ≤ 32) : rot (x : Int) k = ((rotM msk x k : Nat) : Int) := by
  have e : rotM msk x k = (x * 4294967297 / 2 ^ k) % 4294967296 := by
    show (x * 4294967297) >>> k &&& msk = _
    rw [and_msk, Nat.shiftRight_eq_div_pow]
  have h2 : (2 : Nat) ^ 32 = 2 ^ (32 - k) * 2 ^ k := by rw [← Nat.pow_add, show 32 - k + k = 32 by omega]
  have h32 : (4294967296 : Nat) = 2 ^ 32 := by decide
  generalize hA : 2 ^ (32 - k) = A at *
  generalize hB : 2 ^ k = B at *
  have hBp : 0 < B := by rw [← hB]; exact Nat.two_pow_pos k
  have hAB : A * B = 4294967296 := by rw [h32, h2]
  have e1 : x * 4294967297 / B = x * A + x / B := by
    rw [show x * 4294967297 = x + B * (x * A) by rw [Nat.mul_comm B, Nat.mul_assoc, hAB]; omega, Nat.add_mul_div_left _ _ hBp, Nat.add_comm]
  have hlo : x / B < A := by
    rw [Nat.div_lt_iff_lt_mul hBp, hAB]; exact hx
  have hhi : x * A % 4294967296 = A * (x % B) := by
    rw [← hAB, Nat.mul_comm x A, Nat.mul_mod_mul_left]
  have hs : x * A % 4294967296 + x / B < 4294967296 := by
    rw [hhi]
    have h1 : x % B + 1 ≤ B := Nat.mod_lt _ hBp
    have h3 : A * (x % B + 1) ≤ A * B := Nat.mul_le_mul_left _ h1
    rw [hAB, Nat.mul_add, Nat.mul_one] at h3
    omega
  rw [e, e1]
  unfold rot
  rw [hA, hB]
  have j := bits_join .u32 32 (by decide) wraps_u32 (32 - k) ((x * A % 4294967296 : Nat) : Int) ((x / B : Nat) : Int) (Int.natCast_nonneg _) (by
      have : x * A % 4294967296 % 2 ^ (32 - k) = 0 := by rw [hhi, hA, Nat.mul_mod_right]
      exact_mod_cast this) (by
      have : x * A % 4294967296 < 2 ^ 32 := by omega
      exact_mod_cast this) (Int.natCast_nonneg _) (by
      have : x / B < 2 ^ (32 - k) := by rw [hA]; exact hlo
      exact_mod_cast this) (by
      have : x / B < 2 ^ 32 := by omega
      exact_mod_cast this)
  have e2 : (x : Int) * ((A : Nat) : Int) % 4294967296 = ((x * A % 4294967296 : Nat) : Int) := by simp
  have e3 : (x : Int) / ((B : Nat) : Int) = ((x / B : Nat) : Int) := by simp
  rw [e2, e3, j]
  have hq : ∀ y q : Nat, y % 4294967296 + q < 4294967296 → (y + q) % 4294967296 = y % 4294967296 + q := fun y q h => by omega
  have := hq _ _ hs
  rw [this]
  simp
end Go.Proofs.YtjfphobfikadlaaGreatDoor.Lane
