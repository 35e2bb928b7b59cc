/- Contracts: the kit's primes; a secret and its shares that are dealt; lies. -/
import Derived.Test.YtjfphobfikadlaaDoorN18
import Derived.Test.YtjfphobfikadlaaDoorN06
import Derived.Test.YtjfphobfikadlaaDoorN10
import Derived.Deep.MidRow
set_option linter.unusedVariables false
set_option linter.unusedSimpArgs false
namespace Go.Proofs.YtjfphobfikadlaaDoor
open Go.RowKit Num

/-- The kit's primes. -/
def KitP (p : Nat) : Prop := p = 7 ∨ p = 2 ∨ p = 3 ∨ p = 5 ∨ p = 11 ∨ p = 13 ∨ p = 23 ∨ p = 101 ∨ p = 257 ∨ p = 65537 ∨ p = 1000003 ∨ p = 500000003
theorem kitP_prm {p : Nat} (h : KitP p) : Prm p ∧ p ≤ 500000003 := by
  rcases h with rfl | rfl | rfl | rfl | rfl | rfl | rfl | rfl | rfl | rfl | rfl | rfl
  · exact ⟨prm_of (f := 2) (by decide) (by decide) (by decide), by decide⟩
  · exact ⟨prm_of (f := 0) (by decide) (by decide) (by decide), by decide⟩
  · exact ⟨prm_of (f := 0) (by decide) (by decide) (by decide), by decide⟩
  · exact ⟨prm_of (f := 1) (by decide) (by decide) (by decide), by decide⟩
  · exact ⟨prm_of (f := 2) (by decide) (by decide) (by decide), by decide⟩
  · exact ⟨prm_of (f := 2) (by decide) (by decide) (by decide), by decide⟩
  · exact ⟨prm_of (f := 3) (by decide) (by decide) (by decide), by decide⟩
  · exact ⟨prm_of (f := 9) (by decide) (by decide +kernel) (by decide), by decide⟩
  · exact ⟨prm_of (f := 15) (by decide) (by decide +kernel) (by decide), by decide⟩
  · exact ⟨prm_of (f := 255) (by decide) (by decide +kernel) (by decide), by decide⟩
  · exact ⟨prm_of (f := 999) (by decide) (by decide +kernel) (by decide), by decide⟩
  · exact ⟨safe_prm (by unfold Num.Safe; decide), by decide⟩
def PrimePost (b : Nat) (w : World) (e : Ending) (w' : World) : Prop := ∃ p : Nat, KitP p ∧ e = .returned (.int .i64 (p : Int)) ∧ Dc w' b ∧ w.grownBy w' (some b)
set_option maxHeartbeats 1000000 in
theorem k_Prime (b : Nat) (w : World) (hd : Dc w b) :
    Calls Tryd.prog 11 #[.pointer (some ⟨b, 0, none⟩)] w (PrimePost b w) := by
  have hlt := hd.lt
  have HD := Lib.hid hd
  clear hd
  go_enter Tryd.func11, Tryd.ntmps11
  go_wp2_with fail
  refine (k_Next b 12 _ (HD.out.alloc _) (by omega) (by omega)).mono ?_
  rintro e w1 ⟨r, hr, rfl, hd1, hg1⟩
  have hc := fun (i : Nat) => (World.cell?_of_block (hg1.block w.heap.size (by simp) (by simp; omega)) : w1.cell? ⟨w.heap.size, i, none⟩ = _)
  have q1 : (0 : Int) ≤ (r : Int) := by omega
  have q2 : (r : Int) < 12 := by omega
  obtain ⟨p, hp, hcp⟩ : ∃ p : Nat, KitP p ∧ w1.cell? ⟨w.heap.size, r, none⟩ = some (.int .i64 (p : Int)) := by
    rcases (show r = 0 ∨ r = 1 ∨ r = 2 ∨ r = 3 ∨ r = 4 ∨ r = 5 ∨ r = 6 ∨ r = 7 ∨ r = 8 ∨ r = 9 ∨ r = 10 ∨ r = 11 by omega) with rfl | rfl | rfl | rfl | rfl | rfl | rfl | rfl | rfl | rfl | rfl | rfl
    · exact ⟨7, by unfold KitP; decide, by rw [hc]; simp [World.cell?_alloc_new]⟩
    · exact ⟨2, by unfold KitP; decide, by rw [hc]; simp [World.cell?_alloc_new]⟩
    · exact ⟨3, by unfold KitP; decide, by rw [hc]; simp [World.cell?_alloc_new]⟩
    · exact ⟨5, by unfold KitP; decide, by rw [hc]; simp [World.cell?_alloc_new]⟩
    · exact ⟨11, by unfold KitP; decide, by rw [hc]; simp [World.cell?_alloc_new]⟩
    · exact ⟨13, by unfold KitP; decide, by rw [hc]; simp [World.cell?_alloc_new]⟩
    · exact ⟨23, by unfold KitP; decide, by rw [hc]; simp [World.cell?_alloc_new]⟩
    · exact ⟨101, by unfold KitP; decide, by rw [hc]; simp [World.cell?_alloc_new]⟩
    · exact ⟨257, by unfold KitP; decide, by rw [hc]; simp [World.cell?_alloc_new]⟩
    · exact ⟨65537, by unfold KitP; decide, by rw [hc]; simp [World.cell?_alloc_new]⟩
    · exact ⟨1000003, by unfold KitP; decide, by rw [hc]; simp [World.cell?_alloc_new]⟩
    · exact ⟨500000003, by unfold KitP; decide, by rw [hc]; simp [World.cell?_alloc_new]⟩
  have HP := Lib.hid hp
  have HD1 := Lib.hid hd1
  have HG1 := Lib.hid hg1
  clear hd1 hg1 hc hp
  go_wp2_with fail
  go_ret
  exact ⟨p, HP.out, rfl, HD1.out, gb_trans (only_alloc (World.grownBy.refl w _) _) HG1.out⟩

def DealtPost (d p k hold most : Nat) (w : World) (e : Ending) (w' : World) : Prop :=
  ∃ vs vl sec rnd, e = .returned (.tuple #[vs, vl]) ∧ IntsAt w' (fun g => w.heap.size ≤ g ∧ g < w'.heap.size) vs sec ∧ ShAt w' (fun g => w.heap.size ≤ g ∧ g < w'.heap.size) vl (dealL p k sec rnd hold) ∧ 1 ≤ sec.length ∧ sec.length ≤ most ∧ InF p sec ∧ InF p rnd ∧ rnd.length = sec.length * k ∧ Dc w' d ∧ w.grownBy w' (some d)
set_option maxRecDepth 100000 in
set_option maxHeartbeats 4000000 in
theorem k_Dealt (d p need hold most : Nat) (w : World) (hd : Dc w d) (hp : Prm p) (h2 : p ≤ 1073741824) (n1 : 1 ≤ need) (n2 : need ≤ hold) (n3 : hold ≤ 16) (n4 : hold < p) (m1 : 1 ≤ most) (m2 : most ≤ 3) :
    Calls Tryd.prog 12 #[.pointer (some ⟨d, 0, none⟩), .agg #[.int .i64 (p : Int), .int .i64 (need : Int), .int .i64 (hold : Int)], .int .i64 (most : Int)] w (DealtPost d p (need - 1) hold most w) := by
  have p2 := hp.1
  have hlt := hd.lt
  have kp : Blk (w.alloc (.cells #[.int .i64 (p : Int), .int .i64 (need : Int), .int .i64 (hold : Int)] 28)) w.heap.size 28 #[.int .i64 (p : Int), .int .i64 (need : Int), .int .i64 (hold : Int)] := Blk.new w _ _
  have hg0 : w.grownBy (w.alloc (.cells #[.int .i64 (p : Int), .int .i64 (need : Int), .int .i64 (hold : Int)] 28)) (some d) := World.grownBy_alloc w _ _
  have hd0 := hd.alloc (.cells #[.int .i64 (p : Int), .int .i64 (need : Int), .int .i64 (hold : Int)] 28)
  have hnx := fun (W : World) (h : Dc W d) => k_Next d most W h m1 (by omega)
  have hel := fun (W : World) (x : Int) (n : Nat) (hx : x = (n : Int)) (hn : n ≤ 100000) (h : Dc W d) => (by subst hx; exact k_Elements d p n W h p2 h2 hn : Calls Tryd.prog 25 #[.pointer (some ⟨d, 0, none⟩), .int .i64 (p : Int), .int .i64 x] W (ElemPost d p n W))
  have hwr : ∀ r : Nat, r < most → IntKind.i64.wrap (1 + (r : Int)) = ((1 + r : Nat) : Int) := fun r hr => by rw [IntWalk.i64_in _ ⟨by omega, by omega⟩]; omega
  have HWR := Lib.hid hwr
  have HNX := Lib.hid hnx
  have HEL := Lib.hid hel
  have KP := Lib.hid kp
  have HG0 := Lib.hid hg0
  have HD0 := Lib.hid hd0
  have HPR := Lib.hid hp
  clear hd hp kp hg0 hd0 hnx hel hwr
  go_enter Tryd.func12, Tryd.ntmps12
  go_wp2_with fail
  generalize (w.alloc (.cells #[.int .i64 (p : Int), .int .i64 (need : Int), .int .i64 (hold : Int)] 28)) = w0 at *
  have mk : ∀ W : World, Dc W d → w0.grownBy W (some d) → W.cell? ⟨w.heap.size, 0, none⟩ = some (.int .i64 (p : Int)) ∧ W.cell? ⟨w.heap.size, 1, none⟩ = some (.int .i64 (need : Int)) ∧ W.cell? ⟨w.heap.size, 2, none⟩ = some (.int .i64 (hold : Int)) ∧ Hid (Dc W d ∧ w0.grownBy W (some d)) := fun W h1 h2 => by
    have hk := KP.out.grown h2 (by intro e; injection e; omega)
    exact ⟨hk.cell 0, hk.cell 1, hk.cell 2, Lib.hid ⟨h1, h2⟩⟩
  have MK := Lib.hid mk
  clear mk
  go_region_held3 (fun W => W.cell? ⟨w.heap.size, 0, none⟩ = some (.int .i64 (p : Int)) ∧ W.cell? ⟨w.heap.size, 1, none⟩ = some (.int .i64 (need : Int)) ∧ W.cell? ⟨w.heap.size, 2, none⟩ = some (.int .i64 (hold : Int)) ∧ Hid (Dc W d ∧ w0.grownBy W (some d)))
    (first
      | exact HP2.out
      | exact HP.out
      | exact MK.out _ HD0.out.drew (only_drewN (World.grownBy.refl w0 _) 1))
    (first
      | (go_at_call 16
         (with_reducible refine (HNX.out _ HD0.out.drew).mono ?_)
         rintro e w5 ⟨r, hr, rfl, hd5, hg5⟩
         have hg5' : w0.grownBy w5 (some d) := (only_drewN (World.grownBy.refl w0 _) 1).trans hg5
         have HP := Lib.hid (MK.out w5 hd5 hg5')
         have HR := Lib.hid hr
         have HD5 := Lib.hid hd5
         have HG5 := Lib.hid hg5'
         clear hr hd5 hg5 hg5')
      | (go_at_call 25
         (with_reducible refine (HEL.out _ _ (1 + r) (HWR.out r HR.out) (by have := HR.out; omega) HD5.out).mono ?_)
         rintro e w6 ⟨vs, sec, rfl, his, hsl, hsf, hd6, hg6⟩
         have hg6' : w0.grownBy w6 (some d) := HG5.out.trans hg6
         have HP2 := Lib.hid (MK.out w6 hd6 hg6')
         have hsz5 := HG5.out.size
         have his' : IntsAt w6 (fun g => w0.heap.size ≤ g ∧ g < w6.heap.size) vs sec := his.mono fun g hg => ⟨by omega, hg.2⟩
         have HIS := Lib.hid his'
         have HSL := Lib.hid hsl
         have HSF := Lib.hid hsf
         have HD6 := Lib.hid hd6
         have HG6 := Lib.hid hg6'
         clear his his' hsl hsf hd6 hg6 hg6' hsz5))
  obtain ⟨As, ns, cs, rfl, hns, hncs, hcs⟩ := id HIS.out
  have hsl := HSL.out
  have hns1 : 1 ≤ ns := by omega
  have hns2 : ns ≤ 3 := by have := HR.out; omega
  obtain ⟨cnt, hcnt⟩ : ∃ cnt, ns * (need - 1) = cnt := ⟨_, rfl⟩
  have hcnt2 : cnt ≤ 100 := by rw [← hcnt]; exact Nat.le_trans (Nat.mul_le_mul hns2 (show need - 1 ≤ 16 by omega)) (by decide)
  have hrd := fun (W : World) => r_Random p need hold ns W n1 (by omega) (by omega)
  rw [hcnt] at hrd
  unfold planV at hrd
  have hdl : ∀ (W : World) (vr : Value) (rnd : List Int), w6.grownBy W (some d) → IntsAt W (Old W) vr rnd → rnd.length = cnt → InF p rnd →
      Calls Tryd.prog 24 #[.agg #[.int .i64 (p : Int), .int .i64 (need : Int), .int .i64 (hold : Int)], .slice As ns cs, vr] W (DealPost p (need - 1) hold sec rnd W) := fun W vr rnd hW hr hl hf => by
    have := r_Deal p (need - 1) hold sec rnd (.slice As ns cs) vr W HPR.out h2 (by omega) n3 n4 ((HIS.out.keep fun b hb => hW.block b hb.2 (by intro e; injection e; have := HG0.out.size; omega)).mono fun b hb => Nat.lt_of_lt_of_le hb.2 hW.size) hr HSF.out hf (by omega) (by rw [hl, ← hcnt, ← hns])
    unfold planV at this
    rwa [show ((need - 1 + 1 : Nat) : Int) = (need : Int) by omega] at this
  have HRD := Lib.hid hrd
  have HDL := Lib.hid hdl
  have HCNT := Lib.hid hcnt
  have HNS := Lib.hid hns
  have mk : ∀ W : World, Dc W d → w6.grownBy W (some d) → W.cell? ⟨w.heap.size, 0, none⟩ = some (.int .i64 (p : Int)) ∧ W.cell? ⟨w.heap.size, 1, none⟩ = some (.int .i64 (need : Int)) ∧ W.cell? ⟨w.heap.size, 2, none⟩ = some (.int .i64 (hold : Int)) ∧ Hid (Dc W d ∧ w6.grownBy W (some d)) := fun W h1 h2 => by
    have hk := (KP.out.grown HG6.out (by intro e; injection e; omega)).grown h2 (by intro e; injection e; omega)
    exact ⟨hk.cell 0, hk.cell 1, hk.cell 2, Lib.hid ⟨h1, h2⟩⟩
  have MK6 := Lib.hid mk
  clear mk hrd hdl hcnt hns hcs hsl HP HP2 HD5 HG5 HNX MK
  go_wp2_with fail
  go_region_held3 (fun W => W.cell? ⟨w.heap.size, 0, none⟩ = some (.int .i64 (p : Int)) ∧ W.cell? ⟨w.heap.size, 1, none⟩ = some (.int .i64 (need : Int)) ∧ W.cell? ⟨w.heap.size, 2, none⟩ = some (.int .i64 (hold : Int)) ∧ Hid (Dc W d ∧ w6.grownBy W (some d)))
    (first
      | exact HP3.out
      | exact HP2.out
      | exact HP.out
      | exact MK6.out _ HD6.out.drew (only_drewN (World.grownBy.refl w6 _) 1))
    (first
      | (go_at_call 26
         (with_reducible refine (HRD.out _).mono ?_)
         rintro e w7 ⟨rfl, hb7⟩
         have hg7 : w6.grownBy w7 (some d) := (only_drewN (World.grownBy.refl w6 _) 1).trans (only_of_below hb7 _)
         have hd7 := HD6.out.drew.below hb7 HD6.out.lt
         have HP := Lib.hid (MK6.out w7 hd7 hg7)
         have HD7 := Lib.hid hd7
         have HG7 := Lib.hid hg7
         clear hb7 hg7 hd7)
      | (go_at_call 25
         (with_reducible refine (HEL.out _ _ cnt rfl (by omega) HD7.out).mono ?_)
         rintro e w8 ⟨vr, rnd, rfl, hir, hrl, hrf, hd8, hg8⟩
         have hg8' : w6.grownBy w8 (some d) := HG7.out.trans hg8
         have hir' : IntsAt w8 (Old w8) vr rnd := hir.mono fun g hg => hg.2
         have HP2 := Lib.hid (MK6.out w8 hd8 hg8')
         have HIR := Lib.hid hir'
         have HRL := Lib.hid hrl
         have HRF := Lib.hid hrf
         have HD8 := Lib.hid hd8
         have HG8 := Lib.hid hg8'
         clear hir hir' hrl hrf hd8 hg8 hg8')
      | (go_at_call 24
         (with_reducible refine (HDL.out _ _ rnd HG8.out HIR.out HRL.out HRF.out).mono ?_)
         rintro e w9 ⟨vL, rfl, hsh, hb9⟩
         have hg9 : w6.grownBy w9 (some d) := HG8.out.trans (only_of_below hb9 _)
         have hd9 := HD8.out.below hb9 HD8.out.lt
         have hs8 := HG8.out.size
         have HP3 := Lib.hid (MK6.out w9 hd9 hg9)
         have HSH := Lib.hid (hsh.at_.mono (T := fun g => w6.heap.size ≤ g ∧ g < w9.heap.size) fun g hg => ⟨by omega, hg.2⟩)
         have HD9 := Lib.hid hd9
         have HG9 := Lib.hid hg9
         clear hb9 hg9 hd9 hsh hs8))
  clear HP HP2 HP3
  go_wp2_with fail
  go_ret2
  have s0 := HG0.out.size
  have s6 := HG6.out.size
  have s9 := HG9.out.size
  refine ⟨_, _, sec, rnd, rfl, ?_, HSH.out.mono fun g hg => ⟨by omega, hg.2⟩, by have := HNS.out; omega, by have := HNS.out; have := HR.out; have := HSL.out; omega, HSF.out, HRF.out, by rw [HRL.out, ← HCNT.out, HNS.out], HD9.out, (HG0.out.trans HG6.out).trans HG9.out⟩
  exact (HIS.out.keep fun b hb => HG9.out.block b hb.2 (by intro e; injection e; omega)).mono fun g hg => ⟨by omega, by omega⟩
end Go.Proofs.YtjfphobfikadlaaDoor
