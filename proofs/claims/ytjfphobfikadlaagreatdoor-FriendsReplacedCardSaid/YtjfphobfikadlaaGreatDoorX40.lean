/- The walk of the law FriendsReplaced. -/
import Derived.Test.YtjfphobfikadlaaGreatDoorX37
import Derived.Test.YtjfphobfikadlaaGreatDoorX38
import Derived.Test.YtjfphobfikadlaaGreatDoorX39
set_option linter.unusedVariables false
set_option linter.unusedSimpArgs false
namespace Go.Proofs.YtjfphobfikadlaaGreatDoor
open Go.RowKit Num

theorem LsK.limR {w W : World} {d B : Nat} (h : LsK w d B 500000003 2 3 W) : W.cell? ⟨B, 0, none⟩ = some (.int .i64 500000003) ∧ W.cell? ⟨B, 1, none⟩ = some (.int .i64 2) ∧ W.cell? ⟨B, 2, none⟩ = some (.int .i64 3) ∧ Hid (LsK w d B 500000003 2 3 W) :=
  ⟨h.cell0, h.cell1, h.cell2, Lib.hid h⟩
/-- What is kept while the second circle is made. -/
structure K2 (w : World) (d B C N : Nat) (key : ByteArray) (Am : Option Addr) (nm cm : Nat) (Al : Option Addr) (cl : Nat) (W : World) : Prop where
  lsk : LsK w d B 500000003 2 3 W
  blk : Blk W C 40 #[.int .i64 500000003, .int .i64 2, .int .i64 3, .int .i64 0, .slice Am nm cm, .string (shaOf key)]
  ms : StrsAt W (fun z => d < z ∧ z < N) (.slice Am nm cm) (marksL (LK key 1))
  sh : ShAt W (fun z => d < z ∧ z < N) (.slice Al 3 cl) (LK key 1)
  nw : N ≤ W.heap.size
  dc : d < C
section
variable {w W W' : World} {d B C N : Nat} {key : ByteArray} {Am : Option Addr} {nm cm : Nat} {Al : Option Addr} {cl : Nat}
theorem K2.below (h : K2 w d B C N key Am nm cm Al cl W) (hb : Below W.heap.size W W') : K2 w d B C N key Am nm cm Al cl W' := by
  have hn := h.nw
  exact ⟨h.lsk.below hb, h.blk.below hb h.blk.lt, h.ms.keep fun z hz => hb.block z (by omega), h.sh.keep fun z hz => hb.block z (by omega), Nat.le_trans h.nw hb.size, h.dc⟩
theorem K2.alloc (h : K2 w d B C N key Am nm cm Al cl W) (o : Obj) : K2 w d B C N key Am nm cm Al cl (W.alloc o) := h.below ((Below.refl _ _).alloc (Nat.le_refl _) o)
theorem K2.drew (h : K2 w d B C N key Am nm cm Al cl W) : K2 w d B C N key Am nm cm Al cl W.drew := h.below (Below.refl _ _).drew
theorem K2.grown (h : K2 w d B C N key Am nm cm Al cl W) (hg : W.grownBy W' (some d)) (hd : Dc W' d) : K2 w d B C N key Am nm cm Al cl W' := by
  have hn := h.nw
  have hc := h.dc
  exact ⟨h.lsk.grown hg hd, h.blk.grown hg (fun e => by injection e with e; omega), h.ms.keep fun z hz => hg.block z (by omega) (fun e => by injection e with e; omega), h.sh.keep fun z hz => hg.block z (by omega) (fun e => by injection e with e; omega), Nat.le_trans h.nw hg.size, h.dc⟩
theorem K2.ne_d (h : K2 w d B C N key Am nm cm Al cl W) : some W.heap.size ≠ some d := h.lsk.ne_d
theorem K2.lim (h : K2 w d B C N key Am nm cm Al cl W) : W.cell? ⟨B, 0, none⟩ = some (.int .i64 500000003) ∧ W.cell? ⟨B, 1, none⟩ = some (.int .i64 2) ∧ W.cell? ⟨B, 2, none⟩ = some (.int .i64 3) ∧
    W.cell? ⟨C, 0, none⟩ = some (.int .i64 500000003) ∧ W.cell? ⟨C, 1, none⟩ = some (.int .i64 2) ∧ W.cell? ⟨C, 2, none⟩ = some (.int .i64 3) ∧ W.cell? ⟨C, 3, none⟩ = some (.int .i64 0) ∧ W.cell? ⟨C, 4, none⟩ = some (.slice Am nm cm) ∧ W.cell? ⟨C, 5, none⟩ = some (.string (shaOf key)) ∧ Hid (K2 w d B C N key Am nm cm Al cl W) :=
  ⟨h.lsk.cell0, h.lsk.cell1, h.lsk.cell2, h.blk.cell 0, h.blk.cell 1, h.blk.cell 2, h.blk.cell 3, h.blk.cell 4, h.blk.cell 5, Lib.hid h⟩
end
/-- The first circle and its shares lie ready. -/
def LrQ (w : World) (d B : Nat) (key : ByteArray) (c l e : Value) (wx : World) : Prop := ∃ C Am nm cm Al cl, c = .pointer (some ⟨C, 0, none⟩) ∧ l = .slice Al 3 cl ∧ e = .int .i64 0 ∧ K2 w d B C wx.heap.size key Am nm cm Al cl wx
theorem lr_k {w W : World} {d B : Nat} {key : ByteArray} {c l e : Value} (h : LrQ w d B key c l e W) : LsK w d B 500000003 2 3 W := by
  obtain ⟨C, Am, nm, cm, Al, cl, -, -, -, h⟩ := h
  exact h.lsk
theorem lr_first {w wk : World} {d B : Nat} {key : ByteArray} {S : Nat → Prop} {Am : Option Addr} {nm cm : Nat} {vl : Value} (h : LsK w d B 500000003 2 3 wk) (hm : StrsAt wk S (.slice Am nm cm) (marksL (LK key 1))) (hl : ShAt wk S vl (LK key 1)) (hS : ∀ z, S z → d < z ∧ z < wk.heap.size) :
    LrQ w d B key (.pointer (some ⟨wk.heap.size, 0, none⟩)) vl (.int .i64 0) (wk.alloc (.cells #[.int .i64 500000003, .int .i64 2, .int .i64 3, .int .i64 0, .slice Am nm cm, .string (shaOf key)] 40)) := by
  obtain ⟨Al, nl, cl, rfl, hnl, -⟩ := id hl
  have hn3 : nl = 3 := by rw [hnl, LK_len]
  subst hn3
  exact ⟨wk.heap.size, Am, nm, cm, Al, cl, rfl, rfl, rfl, h.alloc _, Blk.new wk _ _, (hm.keep fun z hz => Below.heap_alloc _ _ _ (hS z hz).2).mono (fun z hz => ⟨(hS z hz).1, by have := (hS z hz).2; simp; omega⟩), (hl.keep fun z hz => Below.heap_alloc _ _ _ (hS z hz).2).mono (fun z hz => ⟨(hS z hz).1, by have := (hS z hz).2; simp; omega⟩), Nat.le_refl _, h.dice.lt⟩
theorem lr_second {w wk : World} {d B C : Nat} {key : ByteArray} {S : Nat → Prop} {Am : Option Addr} {nm cm : Nat} {vl : Value} {x0 x1 x2 x3 x4 x5 : Value} (h : LsK w d B 500000003 2 3 wk) (kc : Blk wk C 40 #[x0, x1, x2, x3, x4, x5]) (hC : ∃ W, LsK w d B 500000003 2 3 W ∧ C = W.heap.size) (hm : StrsAt wk S (.slice Am nm cm) (marksL (LK key 1))) (hl : ShAt wk S vl (LK key 1)) (hS : ∀ z, S z → d < z ∧ z < wk.heap.size ∧ z ≠ C) :
    LrQ w d B key (.pointer (some ⟨C, 0, none⟩)) vl (.int .i64 0) ((((((wk.setCell ⟨C, 0, none⟩ (.int .i64 500000003)).setCell ⟨C, 1, none⟩ (.int .i64 2)).setCell ⟨C, 2, none⟩ (.int .i64 3)).setCell ⟨C, 3, none⟩ (.int .i64 0)).setCell ⟨C, 4, none⟩ (.slice Am nm cm)).setCell ⟨C, 5, none⟩ (.string (shaOf key))) := by
  obtain ⟨Al, nl, cl, rfl, hnl, -⟩ := id hl
  have hn3 : nl = 3 := by rw [hnl, LK_len]
  subst hn3
  obtain ⟨h1, h2⟩ := circ_set kc (.int .i64 500000003) (.int .i64 2) (.int .i64 3) (.int .i64 0) (.slice Am nm cm) (.string (shaOf key))
  generalize ((((((wk.setCell ⟨C, 0, none⟩ (.int .i64 500000003)).setCell ⟨C, 1, none⟩ (.int .i64 2)).setCell ⟨C, 2, none⟩ (.int .i64 3)).setCell ⟨C, 3, none⟩ (.int .i64 0)).setCell ⟨C, 4, none⟩ (.slice Am nm cm)).setCell ⟨C, 5, none⟩ (.string (shaOf key))) = wf at *
  obtain ⟨W, hW, rfl⟩ := hC
  have hz := h2.size
  have hd := hW.dice.lt
  have hp := hW.plan.lt
  have hk : ∀ z, S z → wf.heap[z]? = wk.heap[z]? := fun z hz => h2.block z (hS z hz).2.1 (fun e => by injection e with e; exact (hS z hz).2.2 e)
  exact ⟨W.heap.size, Am, nm, cm, Al, cl, rfl, rfl, rfl, ⟨h.dice.grown h2 (fun g hg => by injection hg with hg; omega), h.plan.grown h2 (fun e => by injection e with e; omega), h.old.grown h2 (Nat.le_of_lt h.dice.lt) (fun g hg => by injection hg with hg; omega), h.lt⟩, h1,
    (hm.keep hk).mono (fun z hz' => ⟨(hS z hz').1, by have := (hS z hz').2.1; omega⟩), (hl.keep hk).mono (fun z hz' => ⟨(hS z hz').1, by have := (hS z hz').2.1; omega⟩), Nat.le_refl _, hd⟩
/-- The second circle and its shares lie ready, too. -/
def LqQ (w : World) (d B C N : Nat) (key : ByteArray) (Am : Option Addr) (nm cm : Nat) (Al : Option Addr) (cl : Nat) (c l e : Value) (wx : World) : Prop := ∃ r D A2 n2 c2 Ak ck, r < 1000 ∧ c = .pointer (some ⟨D, 0, none⟩) ∧ l = .slice Ak 3 ck ∧ e = .int .i64 0 ∧ K2 w d B C N key Am nm cm Al cl wx ∧
  Blk wx D 40 #[.int .i64 500000003, .int .i64 2, .int .i64 3, .int .i64 1, .slice A2 n2 c2, .string (shaOf key)] ∧ StrsAt wx (fun z => z < wx.heap.size) (.slice A2 n2 c2) (marksL (LK key (2 + r))) ∧ ShAt wx (fun z => z < wx.heap.size) (.slice Ak 3 ck) (LK key (2 + r))
section
variable {w wk : World} {d B C N r : Nat} {key : ByteArray} {Am : Option Addr} {nm cm : Nat} {Al : Option Addr} {cl : Nat} {S : Nat → Prop} {A2 : Option Addr} {n2 c2 : Nat} {vl : Value}
theorem lq_k {c l e : Value} {W : World} (h : LqQ w d B C N key Am nm cm Al cl c l e W) : K2 w d B C N key Am nm cm Al cl W := by
  obtain ⟨r, D, A2, n2, c2, Ak, ck, -, -, -, -, h, -⟩ := h
  exact h
theorem lq_first (h : K2 w d B C N key Am nm cm Al cl wk) (hr : r < 1000) (hm : StrsAt wk S (.slice A2 n2 c2) (marksL (LK key (2 + r)))) (hl : ShAt wk S vl (LK key (2 + r))) (hS : ∀ z, S z → z < wk.heap.size) :
    LqQ w d B C N key Am nm cm Al cl (.pointer (some ⟨wk.heap.size, 0, none⟩)) vl (.int .i64 0) (wk.alloc (.cells #[.int .i64 500000003, .int .i64 2, .int .i64 3, .int .i64 1, .slice A2 n2 c2, .string (shaOf key)] 40)) := by
  obtain ⟨Ak, nk, ck, rfl, hnl, -⟩ := id hl
  have hn3 : nk = 3 := by rw [hnl, LK_len]
  subst hn3
  exact ⟨r, wk.heap.size, A2, n2, c2, Ak, ck, hr, rfl, rfl, rfl, h.alloc _, Blk.new wk _ _, (hm.keep fun z hz => Below.heap_alloc _ _ _ (hS z hz)).mono (fun z hz => by have := hS z hz; simp; omega), (hl.keep fun z hz => Below.heap_alloc _ _ _ (hS z hz)).mono (fun z hz => by have := hS z hz; simp; omega)⟩
theorem lq_second {D : Nat} {x0 x1 x2 x3 x4 x5 : Value} (h : K2 w d B C N key Am nm cm Al cl wk) (kc : Blk wk D 40 #[x0, x1, x2, x3, x4, x5]) (hC : ∃ W, K2 w d B C N key Am nm cm Al cl W ∧ D = W.heap.size) (hr : r < 1000) (hm : StrsAt wk S (.slice A2 n2 c2) (marksL (LK key (2 + r)))) (hl : ShAt wk S vl (LK key (2 + r))) (hS : ∀ z, S z → z < wk.heap.size ∧ z ≠ D) :
    LqQ w d B C N key Am nm cm Al cl (.pointer (some ⟨D, 0, none⟩)) vl (.int .i64 0) ((((((wk.setCell ⟨D, 0, none⟩ (.int .i64 500000003)).setCell ⟨D, 1, none⟩ (.int .i64 2)).setCell ⟨D, 2, none⟩ (.int .i64 3)).setCell ⟨D, 3, none⟩ (.int .i64 1)).setCell ⟨D, 4, none⟩ (.slice A2 n2 c2)).setCell ⟨D, 5, none⟩ (.string (shaOf key))) := by
  obtain ⟨Ak, nk, ck, rfl, hnl, -⟩ := id hl
  have hn3 : nk = 3 := by rw [hnl, LK_len]
  subst hn3
  obtain ⟨h1, h2⟩ := circ_set kc (.int .i64 500000003) (.int .i64 2) (.int .i64 3) (.int .i64 1) (.slice A2 n2 c2) (.string (shaOf key))
  generalize ((((((wk.setCell ⟨D, 0, none⟩ (.int .i64 500000003)).setCell ⟨D, 1, none⟩ (.int .i64 2)).setCell ⟨D, 2, none⟩ (.int .i64 3)).setCell ⟨D, 3, none⟩ (.int .i64 1)).setCell ⟨D, 4, none⟩ (.slice A2 n2 c2)).setCell ⟨D, 5, none⟩ (.string (shaOf key))) = wf at *
  obtain ⟨W, hW, rfl⟩ := hC
  have hz := h2.size
  have hd := hW.lsk.dice.lt
  have hp := hW.lsk.plan.lt
  have hn := hW.nw
  have hb := hW.blk.lt
  have hk : ∀ z, S z → wf.heap[z]? = wk.heap[z]? := fun z hz => h2.block z (hS z hz).1 (fun e => by injection e with e; exact (hS z hz).2 e)
  have hk2 : ∀ z, z < W.heap.size → z < wk.heap.size → wf.heap[z]? = wk.heap[z]? := fun z h1' h2' => h2.block z h2' (fun e => by injection e with e; omega)
  have hwn := h.nw
  refine ⟨r, W.heap.size, A2, n2, c2, Ak, ck, hr, rfl, rfl, rfl, ⟨⟨h.lsk.dice.grown h2 (fun g hg => by injection hg with hg; omega), h.lsk.plan.grown h2 (fun e => by injection e with e; omega), h.lsk.old.grown h2 (Nat.le_of_lt h.lsk.dice.lt) (fun g hg => by injection hg with hg; omega), h.lsk.lt⟩, h.blk.grown h2 (fun e => by injection e with e; omega), h.ms.keep fun z hz' => hk2 z (by omega) (by omega), h.sh.keep fun z hz' => hk2 z (by omega) (by omega), by omega, h.dc⟩, h1,
    (hm.keep hk).mono (fun z hz' => by have := (hS z hz').1; omega), (hl.keep hk).mono (fun z hz' => by have := (hS z hz').1; omega)⟩
end
theorem ShAt.one {w : World} {S : Nat → Prop} {A : Option Addr} {n c i : Nat} {L : List Sh} (h : ShAt w S (.slice A n c) L) (hi : i < n) : ShAt w S (.slice (subA A c i 2) 1 (c - i)) [shAt L i] := by
  obtain ⟨A', n', c', hv, e1, e2, hc⟩ := h
  injection hv with v1 v2 v3
  subst v1 v2 v3
  obtain ⟨b, off, rfl, hS, hcell⟩ := hc (by omega)
  have hs : subA (some ⟨b, off, none⟩) c i 2 = some ⟨b, off + i * 2, none⟩ := by
    unfold subA; rw [if_neg (by omega)]
    show some ((⟨b, off, none⟩ : Addr).add (i * 2)) = _
    unfold Addr.add; split <;> simp_all
  rw [hs]
  refine ⟨_, _, _, rfl, rfl, by omega, fun _ => ⟨b, off + i * 2, rfl, hS, fun k hk => ?_⟩⟩
  have hk0 : k = 0 := by omega
  subst hk0
  obtain ⟨u, m0, m1, hu⟩ := hcell i hi
  exact ⟨u, by rw [Nat.zero_mul, Nat.add_zero]; exact m0, by rw [Nat.zero_mul, Nat.add_zero]; exact m1, hu⟩
set_option maxRecDepth 100000 in
set_option maxHeartbeats 8000000 in
theorem l_Replaced (v : Value) (w : World) (hw : BasesOk w) (A : Option Addr) (n c : Nat) (hv : v = .slice A n c) (hn : n ≤ 9223372036854775807) (ha : n ≤ 500 → ArgL w v) :
    Calls Tryz.prog 7 #[v] w (BoolBelow true w) := by
  subst hv
  have haw := fun (W : World) (hW : Below w.heap.size w W) => f_awake W (hw.below hW)
  unfold BoolBelow at haw
  have HAW := Lib.hid haw
  by_cases h5 : n ≤ 500
  · have t1 : decide ((n : Int) ≤ 500) = true := decide_eq_true (by omega)
    have ha := ha h5
    have HW := Lib.hid hw
    have HA := Lib.hid ha
    clear hw ha haw
    go_enter Tryz.func7, Tryz.ntmps7
    go_wp2_with fail
    refine (k_Light A n c _ hn).mono ?_
    rintro e w' ⟨rfl, rfl⟩
    go_wp2_with fail
    refine (k_Roll _ _ HA.out).mono ?_
    rintro e w1 ⟨rfl, hd1, hb1⟩
    have hlt1 := hd1.lt
    obtain ⟨d, hd⟩ : ∃ d, w.heap.size = d := ⟨_, rfl⟩
    rw [hd] at hd1 hb1 hlt1 ⊢
    have HD := Lib.hid hd
    clear hd HA
    have hk0 : LsK w d w1.heap.size 500000003 2 3 (w1.alloc (.cells #[.int .i64 500000003, .int .i64 2, .int .i64 3] 34)) := ⟨hd1.alloc _, Blk.new w1 _ _, hb1.alloc (by omega) _, hlt1⟩
    have HK0 := Lib.hid hk0
    clear hd1 hb1 hk0
    go_upto_region 5 with fail
    generalize (w1.alloc (.cells #[.int .i64 500000003, .int .i64 2, .int .i64 3] 34)) = ws at *
    generalize w1.heap.size = B at *
    go_wp2_with fail
    refine (k_Salt3 d _ HK0.out.dice).mono ?_
    rintro e w0 ⟨key, hkey, hk16, rfl, hds, hgs⟩
    have H0 := Lib.hid (HK0.out.grown hgs hds)
    have HKEY := Lib.hid hkey
    have HK16 := Lib.hid hk16
    clear hkey hk16 hds hgs HK0 hlt1
    have hbo : ∀ W, LsK w d B 500000003 2 3 W → BasesOk W := fun W hK => HW.out.below (HD.out ▸ hK.old)
    have hnd : ∀ W, LsK w d B 500000003 2 3 W → Calls Tryz.prog 24 #[.agg #[.int .i64 500000003, .int .i64 2, .int .i64 3]] W (fun e w' => e = .returned (.int .i64 6) ∧ LsK w d B 500000003 2 3 w' ∧ W.grownBy w' (some d)) := fun W hK => by
      have h := f_Needs 500000003 2 3 W (by decide) (by decide) (by decide)
      rw [show cntP 500000003 * (2 - 1) = 6 from by rw [cnt3 (by decide)]] at h
      exact h.mono fun e w' ⟨h1, h2⟩ => ⟨h1, hK.below h2, only_of_below h2 _⟩
    have hfl : ∀ W, LsK w d B 500000003 2 3 W → Calls Tryz.prog 22 #[.int .i64 500000003, .int .i64 1, .int .i64 6] W (fun e w' => ∃ vr, e = .returned vr ∧ IntsAt w' (fun b => W.heap.size ≤ b ∧ b < w'.heap.size) vr (fillL 500000003 1 6) ∧ LsK w d B 500000003 2 3 w' ∧ W.grownBy w' (some d)) := fun W hK => by
      have h := y_Fill 500000003 6 1 W (by decide) (by decide) (by decide)
      rw [show (1 % ((500000003 : Nat) : Int)).toNat = 1 from by decide] at h
      exact h.mono fun e w' ⟨vr, h1, h2, h3⟩ => ⟨vr, h1, h2, hK.below h3, only_of_below h3 _⟩
    have hmk : ∀ W vr T, LsK w d B 500000003 2 3 W → IntsAt W T vr (fillL 500000003 1 6) → (∀ b, T b → b < W.heap.size) → Calls Tryz.prog 21 #[.agg #[.int .i64 500000003, .int .i64 2, .int .i64 3], .string key, vr] W (fun e w' => ∃ Am nm cm vl, e = .returned (.tuple #[.agg #[.int .i64 500000003, .int .i64 2, .int .i64 3, .int .i64 0, .slice Am nm cm, .string (shaOf key)], vl, .int .i64 0]) ∧ StrsAt w' (fun b => W.heap.size ≤ b ∧ b < w'.heap.size) (.slice Am nm cm) (marksL (LK key 1)) ∧ ShAt w' (fun b => W.heap.size ≤ b ∧ b < w'.heap.size) vl (LK key 1) ∧ LsK w d B 500000003 2 3 w' ∧ W.grownBy w' (some d)) := fun W vr T hK hv hT =>
      (rk_Make key HK16.out 1 W (hbo W hK) vr T hv hT).mono fun e w' ⟨vm, vl, h1, h2, h3, h4⟩ => by
        obtain ⟨Am, nm, cm, rfl, -⟩ := id h2
        exact ⟨Am, nm, cm, vl, h1, h2, h3, hK.below h4, only_of_below h4 _⟩
    have HND := Lib.hid hnd
    have HFL := Lib.hid hfl
    have HMK := Lib.hid hmk
    have HBO := Lib.hid hbo
    clear hnd hfl hmk hbo
    go_upto_region 6 with fail
    go_cut [6, 7, 8] from 27 to 36 (fun c l e wx => LrQ w d B key c l e wx)
    case first =>
      go_region_held3 (fun W => W.cell? ⟨B, 0, none⟩ = some (.int .i64 500000003) ∧ W.cell? ⟨B, 1, none⟩ = some (.int .i64 2) ∧ W.cell? ⟨B, 2, none⟩ = some (.int .i64 3) ∧ Hid (LsK w d B 500000003 2 3 W))
          (first
            | with_reducible exact H0.out.drew.limR
            | with_reducible exact H1.out.limR
            | with_reducible exact H2.out.limR
            | with_reducible exact H3.out.limR
            | with_reducible exact (H0.out.alloc _).limR
            | with_reducible exact (H0.out.alloc _).drew.limR
            | with_reducible exact (H0.out.drew.alloc _).limR
            | with_reducible exact (H1.out.alloc _).limR
            | with_reducible exact (H1.out.alloc _).drew.limR
            | with_reducible exact (H1.out.drew.alloc _).limR
            | with_reducible exact (H2.out.alloc _).limR
            | with_reducible exact (H2.out.alloc _).drew.limR
            | with_reducible exact (H2.out.drew.alloc _).limR
            | with_reducible exact (H3.out.alloc _).limR
            | with_reducible exact (H3.out.alloc _).drew.limR
            | with_reducible exact (H3.out.drew.alloc _).limR
            | with_reducible exact (lr_k (lr_second H3.out kc3 (by first | exact ⟨_, H0.out, rfl⟩ | exact ⟨_, H0.out.drew, rfl⟩ | exact ⟨_, H1.out, rfl⟩ | exact ⟨_, H2.out, rfl⟩) HMS.out HSH.out (fun b hb => ⟨by have h1 := hb.1; have h2 := H2.out.dice.lt; first | omega | (simp at h1; omega), hb.2, by have h1 := hb.1; first | (have h2 := kc2.lt; omega) | (simp at h1; omega)⟩))).limR)
          (first
            | (go_at_call 24; ((with_reducible refine (HND.out _ (by first | exact H0.out | exact H0.out.drew | exact H0.out.alloc _ | exact (H0.out.alloc _).drew | exact (H0.out.drew).alloc _)).mono ?_); rintro e w1 ⟨rfl, hK, hG⟩; have H1 : Hid (LsK w d B 500000003 2 3 w1) := Lib.hid hK; (try (have kc1 : Blk w1 w0.heap.size 40 #[.int .i64 0, .int .i64 0, .int .i64 0, .int .i64 0, .slice none 0 0, .string ⟨#[]⟩] := (by first | exact (Blk.new w0 40 #[.int .i64 0, .int .i64 0, .int .i64 0, .int .i64 0, .slice none 0 0, .string ⟨#[]⟩]).grown hG H0.out.ne_d | exact (Blk.new w0 40 #[.int .i64 0, .int .i64 0, .int .i64 0, .int .i64 0, .slice none 0 0, .string ⟨#[]⟩]).drew.grown hG H0.out.ne_d | exact (Blk.new w0.drew 40 #[.int .i64 0, .int .i64 0, .int .i64 0, .int .i64 0, .slice none 0 0, .string ⟨#[]⟩]).grown hG H0.out.ne_d))); clear hK hG))
            | (go_at_call 22; ((with_reducible refine (HFL.out _ (by first | exact H1.out | exact H1.out.drew | exact H1.out.alloc _ | exact (H1.out.alloc _).drew | exact (H1.out.drew).alloc _)).mono ?_); rintro e w2 ⟨vr, rfl, hvr, hK, hG⟩; have H2 : Hid (LsK w d B 500000003 2 3 w2) := Lib.hid hK; have HM2 := Lib.hid (fun (W : World) (hKW : LsK w d B 500000003 2 3 W) (hb : Below w2.heap.size w2 W) => HMK.out W vr _ hKW (hvr.keep fun b hb2 => hb.block b hb2.2) (fun b hb2 => Nat.lt_of_lt_of_le hb2.2 hb.size)); clear hvr; (try (have kc2 : Blk w2 w1.heap.size 40 #[.int .i64 0, .int .i64 0, .int .i64 0, .int .i64 0, .slice none 0 0, .string ⟨#[]⟩] := (by first | exact (Blk.new w1 40 #[.int .i64 0, .int .i64 0, .int .i64 0, .int .i64 0, .slice none 0 0, .string ⟨#[]⟩]).grown hG H1.out.ne_d | exact (Blk.new w1 40 #[.int .i64 0, .int .i64 0, .int .i64 0, .int .i64 0, .slice none 0 0, .string ⟨#[]⟩]).drew.grown hG H1.out.ne_d | exact (Blk.new w1.drew 40 #[.int .i64 0, .int .i64 0, .int .i64 0, .int .i64 0, .slice none 0 0, .string ⟨#[]⟩]).grown hG H1.out.ne_d))); (try (have kc2 := kc1.grown hG (by first | exact H0.out.ne_d | exact H1.out.ne_d))); clear hK hG))
            | (go_at_call 21; ((with_reducible refine (HM2.out _ (by first | exact H2.out | exact H2.out.drew | exact H2.out.alloc _ | exact (H2.out.alloc _).drew | exact (H2.out.drew).alloc _) (by first | exact Below.refl _ _ | exact (Below.refl _ _).drew | exact (Below.refl _ _).alloc (Nat.le_refl _) _ | exact ((Below.refl _ _).alloc (Nat.le_refl _) _).drew)).mono ?_); rintro e w3 ⟨Am, nm, cm, vl, rfl, hms, hsh, hK, hG⟩; have H3 : Hid (LsK w d B 500000003 2 3 w3) := Lib.hid hK; have HMS := Lib.hid hms; have HSH := Lib.hid hsh; clear hms hsh; (try (have kc3 : Blk w3 w2.heap.size 40 #[.int .i64 0, .int .i64 0, .int .i64 0, .int .i64 0, .slice none 0 0, .string ⟨#[]⟩] := (by first | exact (Blk.new w2 40 #[.int .i64 0, .int .i64 0, .int .i64 0, .int .i64 0, .slice none 0 0, .string ⟨#[]⟩]).grown hG H2.out.ne_d | exact (Blk.new w2 40 #[.int .i64 0, .int .i64 0, .int .i64 0, .int .i64 0, .slice none 0 0, .string ⟨#[]⟩]).drew.grown hG H2.out.ne_d | exact (Blk.new w2.drew 40 #[.int .i64 0, .int .i64 0, .int .i64 0, .int .i64 0, .slice none 0 0, .string ⟨#[]⟩]).grown hG H2.out.ne_d))); (try (have kc3 := kc2.grown hG (by first | exact H0.out.ne_d | exact H1.out.ne_d | exact H2.out.ne_d))); (try (have d0 := (kc3.cell 0).trans (show _ = some (Value.int .i64 0) from rfl))); (try (have dz0 := kc3.frozen 0)); (try (have d1 := (kc3.cell 1).trans (show _ = some (Value.int .i64 0) from rfl))); (try (have dz1 := kc3.frozen 1)); (try (have d2 := (kc3.cell 2).trans (show _ = some (Value.int .i64 0) from rfl))); (try (have dz2 := kc3.frozen 2)); (try (have d3 := (kc3.cell 3).trans (show _ = some (Value.int .i64 0) from rfl))); (try (have dz3 := kc3.frozen 3)); (try (have d4 := (kc3.cell 4).trans (show _ = some (Value.slice none 0 0) from rfl))); (try (have dz4 := kc3.frozen 4)); (try (have d5 := (kc3.cell 5).trans (show _ = some (Value.string ⟨#[]⟩) from rfl))); (try (have dz5 := kc3.frozen 5)); clear hK hG)))
      all_goals
        go_wp2_with fail
        go_meet
        first
          | with_reducible exact lr_second H3.out kc3 (by first | exact ⟨_, H0.out, rfl⟩ | exact ⟨_, H0.out.drew, rfl⟩ | exact ⟨_, H1.out, rfl⟩ | exact ⟨_, H2.out, rfl⟩) HMS.out HSH.out (fun b hb => ⟨by have h1 := hb.1; have h2 := H2.out.dice.lt; first | omega | (simp at h1; omega), hb.2, by have h1 := hb.1; first | (have h2 := kc2.lt; omega) | (simp at h1; omega)⟩)
          | with_reducible exact lr_first H3.out HMS.out HSH.out (fun b hb => ⟨by have h1 := hb.1; have h2 := H2.out.dice.lt; first | omega | (simp at h1; omega), hb.2⟩)
    case rest =>
      rename World => y0
      obtain ⟨C, Am, nm, cm, Al, cl, rfl, rfl, rfl, hk2⟩ := hcut
      generalize y0.heap.size = N at *
      have J0 := Lib.hid hk2
      clear hk2 HND HFL HMK H0
      have jnx : ∀ W, K2 w d B C N key Am nm cm Al cl W → Calls Tryz.prog 23 #[.pointer (some ⟨d, 0, none⟩), .int .i64 1000] W (fun e w' => ∃ r : Nat, r < 1000 ∧ e = .returned (.int .i64 (r : Int)) ∧ K2 w d B C N key Am nm cm Al cl w' ∧ W.grownBy w' (some d)) := fun W hK => (k_Next d 1000 W hK.lsk.dice (by decide) (by decide)).mono fun e w' ⟨r, h1, h2, h3, h4⟩ => ⟨r, h1, h2, hK.grown h4 h3, h4⟩
      have jnd : ∀ W, K2 w d B C N key Am nm cm Al cl W → Calls Tryz.prog 24 #[.agg #[.int .i64 500000003, .int .i64 2, .int .i64 3]] W (fun e w' => e = .returned (.int .i64 6) ∧ K2 w d B C N key Am nm cm Al cl w' ∧ W.grownBy w' (some d)) := fun W hK => by
        have h := f_Needs 500000003 2 3 W (by decide) (by decide) (by decide)
        rw [show cntP 500000003 * (2 - 1) = 6 from by rw [cnt3 (by decide)]] at h
        exact h.mono fun e w' ⟨h1, h2⟩ => ⟨h1, hK.below h2, only_of_below h2 _⟩
      have jfl : ∀ W (r : Nat), r < 1000 → K2 w d B C N key Am nm cm Al cl W → Calls Tryz.prog 22 #[.int .i64 500000003, .int .i64 (2 + (r : Int)), .int .i64 6] W (fun e w' => ∃ vr, e = .returned vr ∧ IntsAt w' (fun b => W.heap.size ≤ b ∧ b < w'.heap.size) vr (fillL 500000003 (2 + r) 6) ∧ K2 w d B C N key Am nm cm Al cl w' ∧ W.grownBy w' (some d)) := fun W r hr hK => by
        have h := y_Fill 500000003 6 (2 + (r : Int)) W (by decide) (by decide) (by decide)
        rw [show ((2 + (r : Int)) % ((500000003 : Nat) : Int)).toNat = 2 + r from by omega] at h
        exact h.mono fun e w' ⟨vr, h1, h2, h3⟩ => ⟨vr, h1, h2, hK.below h3, only_of_below h3 _⟩
      have jrp : ∀ W (r : Nat), r < 1000 → ∀ vr T, K2 w d B C N key Am nm cm Al cl W → IntsAt W T vr (fillL 500000003 (2 + r) 6) → (∀ b, T b → b < W.heap.size) → Calls Tryz.prog 40 #[.agg #[.int .i64 500000003, .int .i64 2, .int .i64 3, .int .i64 0, .slice Am nm cm, .string (shaOf key)], .slice Al 3 cl, .agg #[.int .i64 500000003, .int .i64 2, .int .i64 3], vr] W (fun e w' => ∃ A2 n2 c2 vk, e = .returned (.tuple #[.agg #[.int .i64 500000003, .int .i64 2, .int .i64 3, .int .i64 1, .slice A2 n2 c2, .string (shaOf key)], vk, .int .i64 0]) ∧ StrsAt w' (fun b => W.heap.size ≤ b ∧ b < w'.heap.size) (.slice A2 n2 c2) (marksL (LK key (2 + r))) ∧ ShAt w' (fun b => W.heap.size ≤ b ∧ b < w'.heap.size) vk (LK key (2 + r)) ∧ K2 w d B C N key Am nm cm Al cl w' ∧ W.grownBy w' (some d)) := fun W r hr vr T hK hv hT => by
        have hN := hK.nw
        refine (f_Replace 500000003 2 3 Am nm cm Al 3 cl vr (shaOf key) (shaOf key) key (marksL (LK key (2 + r))) (LK key (2 + r)) W (fun W' hb => ?_) (fun W' hb => ?_)).mono fun e w' ⟨A2, n2, c2, vk, h1, h2, h3, h4⟩ => ⟨A2, n2, c2, vk, h1, h2, h3, hK.below h4, only_of_below h4 _⟩
        · have hK' := hK.below hb
          exact rk_RecAll 0 (by decide) (by decide) key HK16.out 1 (LK key 1) ⟨fun k => k, fun k hk => ⟨hk, rfl⟩, fun i j _ _ h e => h e⟩ (by rw [LK_len]; decide) (by rw [LK_len]; decide) _ _ _ _ W' (HBO.out W' hK'.lsk) hK'.sh (fun b hb => Nat.lt_of_lt_of_le hb.2 hK'.nw) hK'.ms (fun b hb => Nat.lt_of_lt_of_le hb.2 hK'.nw)
        · exact rk_Make key HK16.out (2 + r) W' (HBO.out W' (hK.below hb).lsk) vr T (hv.keep fun b hb' => hb.block b (hT b hb')) (fun b hb' => Nat.lt_of_lt_of_le (hT b hb') hb.size)
      have JNX := Lib.hid jnx
      have JND := Lib.hid jnd
      have JFL := Lib.hid jfl
      have JRP := Lib.hid jrp
      clear jnx jnd jfl jrp
      go_upto_region 7 with fail
      go_cut [9, 10, 11] from 37 to 50 (fun c l e wx => LqQ w d B C N key Am nm cm Al cl c l e wx)
      case first =>
        go_region_held3 (fun W => W.cell? ⟨B, 0, none⟩ = some (.int .i64 500000003) ∧ W.cell? ⟨B, 1, none⟩ = some (.int .i64 2) ∧ W.cell? ⟨B, 2, none⟩ = some (.int .i64 3) ∧
    W.cell? ⟨C, 0, none⟩ = some (.int .i64 500000003) ∧ W.cell? ⟨C, 1, none⟩ = some (.int .i64 2) ∧ W.cell? ⟨C, 2, none⟩ = some (.int .i64 3) ∧ W.cell? ⟨C, 3, none⟩ = some (.int .i64 0) ∧ W.cell? ⟨C, 4, none⟩ = some (.slice Am nm cm) ∧ W.cell? ⟨C, 5, none⟩ = some (.string (shaOf key)) ∧ Hid (K2 w d B C N key Am nm cm Al cl W))
          (first
            | with_reducible exact J0.out.drew.lim
            | with_reducible exact J1.out.lim
            | with_reducible exact J2.out.lim
            | with_reducible exact J3.out.lim
            | with_reducible exact J4.out.lim
            | with_reducible exact (J0.out.alloc _).lim
            | with_reducible exact (J0.out.alloc _).drew.lim
            | with_reducible exact (J0.out.drew.alloc _).lim
            | with_reducible exact (J1.out.alloc _).lim
            | with_reducible exact (J1.out.alloc _).drew.lim
            | with_reducible exact (J1.out.drew.alloc _).lim
            | with_reducible exact (J2.out.alloc _).lim
            | with_reducible exact (J2.out.alloc _).drew.lim
            | with_reducible exact (J2.out.drew.alloc _).lim
            | with_reducible exact (J3.out.alloc _).lim
            | with_reducible exact (J3.out.alloc _).drew.lim
            | with_reducible exact (J3.out.drew.alloc _).lim
            | with_reducible exact (J4.out.alloc _).lim
            | with_reducible exact (J4.out.alloc _).drew.lim
            | with_reducible exact (J4.out.drew.alloc _).lim
            | with_reducible exact (lq_k (lq_second J4.out kx4 (by first | exact ⟨_, J0.out, rfl⟩ | exact ⟨_, J0.out.drew, rfl⟩ | exact ⟨_, J1.out, rfl⟩ | exact ⟨_, J2.out, rfl⟩ | exact ⟨_, J3.out, rfl⟩) HR.out HMS2.out HSH2.out (fun b hb => ⟨hb.2, by have h1 := hb.1; first | (have h2 := kx3.lt; omega) | (simp at h1; omega)⟩))).lim)
          (first
            | (go_at_call 23; ((with_reducible refine (JNX.out _ (by first | exact J0.out | exact J0.out.drew | exact J0.out.alloc _ | exact (J0.out.alloc _).drew | exact (J0.out.drew).alloc _)).mono ?_); rintro e y1 ⟨r, hr, rfl, hK, hG⟩; have J1 : Hid (K2 w d B C N key Am nm cm Al cl y1) := Lib.hid hK; have hw2 : IntKind.i64.wrap (2 + (r : Int)) = 2 + (r : Int) := IntWalk.i64_in _ ⟨by omega, by omega⟩; have HR := Lib.hid hr; clear hr; (try (have kx1 : Blk y1 y0.heap.size 40 #[.int .i64 0, .int .i64 0, .int .i64 0, .int .i64 0, .slice none 0 0, .string ⟨#[]⟩] := (by first | exact (Blk.new y0 40 #[.int .i64 0, .int .i64 0, .int .i64 0, .int .i64 0, .slice none 0 0, .string ⟨#[]⟩]).grown hG J0.out.ne_d | exact (Blk.new y0 40 #[.int .i64 0, .int .i64 0, .int .i64 0, .int .i64 0, .slice none 0 0, .string ⟨#[]⟩]).drew.grown hG J0.out.ne_d | exact (Blk.new y0.drew 40 #[.int .i64 0, .int .i64 0, .int .i64 0, .int .i64 0, .slice none 0 0, .string ⟨#[]⟩]).grown hG J0.out.ne_d))); clear hK hG))
            | (go_at_call 24; ((with_reducible refine (JND.out _ (by first | exact J1.out | exact J1.out.drew | exact J1.out.alloc _ | exact (J1.out.alloc _).drew | exact (J1.out.drew).alloc _)).mono ?_); rintro e y2 ⟨rfl, hK, hG⟩; have J2 : Hid (K2 w d B C N key Am nm cm Al cl y2) := Lib.hid hK; (try (have kx2 : Blk y2 y1.heap.size 40 #[.int .i64 0, .int .i64 0, .int .i64 0, .int .i64 0, .slice none 0 0, .string ⟨#[]⟩] := (by first | exact (Blk.new y1 40 #[.int .i64 0, .int .i64 0, .int .i64 0, .int .i64 0, .slice none 0 0, .string ⟨#[]⟩]).grown hG J1.out.ne_d | exact (Blk.new y1 40 #[.int .i64 0, .int .i64 0, .int .i64 0, .int .i64 0, .slice none 0 0, .string ⟨#[]⟩]).drew.grown hG J1.out.ne_d | exact (Blk.new y1.drew 40 #[.int .i64 0, .int .i64 0, .int .i64 0, .int .i64 0, .slice none 0 0, .string ⟨#[]⟩]).grown hG J1.out.ne_d))); (try (have kx2 := kx1.grown hG (by first | exact J0.out.ne_d | exact J1.out.ne_d))); clear hK hG))
            | (go_at_call 22; ((with_reducible refine (JFL.out _ r HR.out (by first | exact J2.out | exact J2.out.drew | exact J2.out.alloc _ | exact (J2.out.alloc _).drew | exact (J2.out.drew).alloc _)).mono ?_); rintro e y3 ⟨vr, rfl, hvr, hK, hG⟩; have J3 : Hid (K2 w d B C N key Am nm cm Al cl y3) := Lib.hid hK; have JM3 := Lib.hid (fun (W : World) (hKW : K2 w d B C N key Am nm cm Al cl W) (hb : Below y3.heap.size y3 W) => JRP.out W r HR.out vr _ hKW (hvr.keep fun b hb2 => hb.block b hb2.2) (fun b hb2 => Nat.lt_of_lt_of_le hb2.2 hb.size)); clear hvr; (try (have kx3 : Blk y3 y2.heap.size 40 #[.int .i64 0, .int .i64 0, .int .i64 0, .int .i64 0, .slice none 0 0, .string ⟨#[]⟩] := (by first | exact (Blk.new y2 40 #[.int .i64 0, .int .i64 0, .int .i64 0, .int .i64 0, .slice none 0 0, .string ⟨#[]⟩]).grown hG J2.out.ne_d | exact (Blk.new y2 40 #[.int .i64 0, .int .i64 0, .int .i64 0, .int .i64 0, .slice none 0 0, .string ⟨#[]⟩]).drew.grown hG J2.out.ne_d | exact (Blk.new y2.drew 40 #[.int .i64 0, .int .i64 0, .int .i64 0, .int .i64 0, .slice none 0 0, .string ⟨#[]⟩]).grown hG J2.out.ne_d))); (try (have kx3 := kx2.grown hG (by first | exact J0.out.ne_d | exact J1.out.ne_d | exact J2.out.ne_d))); clear hK hG))
            | (go_at_call 40; ((with_reducible refine (JM3.out _ (by first | exact J3.out | exact J3.out.drew | exact J3.out.alloc _ | exact (J3.out.alloc _).drew | exact (J3.out.drew).alloc _) (by first | exact Below.refl _ _ | exact (Below.refl _ _).drew | exact (Below.refl _ _).alloc (Nat.le_refl _) _ | exact ((Below.refl _ _).alloc (Nat.le_refl _) _).drew)).mono ?_); rintro e y4 ⟨A2, n2, c2, vk, rfl, hms2, hsh2, hK, hG⟩; have J4 : Hid (K2 w d B C N key Am nm cm Al cl y4) := Lib.hid hK; have HMS2 := Lib.hid hms2; have HSH2 := Lib.hid hsh2; clear hms2 hsh2; (try (have kx4 : Blk y4 y3.heap.size 40 #[.int .i64 0, .int .i64 0, .int .i64 0, .int .i64 0, .slice none 0 0, .string ⟨#[]⟩] := (by first | exact (Blk.new y3 40 #[.int .i64 0, .int .i64 0, .int .i64 0, .int .i64 0, .slice none 0 0, .string ⟨#[]⟩]).grown hG J3.out.ne_d | exact (Blk.new y3 40 #[.int .i64 0, .int .i64 0, .int .i64 0, .int .i64 0, .slice none 0 0, .string ⟨#[]⟩]).drew.grown hG J3.out.ne_d | exact (Blk.new y3.drew 40 #[.int .i64 0, .int .i64 0, .int .i64 0, .int .i64 0, .slice none 0 0, .string ⟨#[]⟩]).grown hG J3.out.ne_d))); (try (have kx4 := kx3.grown hG (by first | exact J0.out.ne_d | exact J1.out.ne_d | exact J2.out.ne_d | exact J3.out.ne_d))); (try (have g0 := (kx4.cell 0).trans (show _ = some (Value.int .i64 0) from rfl))); (try (have gz0 := kx4.frozen 0)); (try (have g1 := (kx4.cell 1).trans (show _ = some (Value.int .i64 0) from rfl))); (try (have gz1 := kx4.frozen 1)); (try (have g2 := (kx4.cell 2).trans (show _ = some (Value.int .i64 0) from rfl))); (try (have gz2 := kx4.frozen 2)); (try (have g3 := (kx4.cell 3).trans (show _ = some (Value.int .i64 0) from rfl))); (try (have gz3 := kx4.frozen 3)); (try (have g4 := (kx4.cell 4).trans (show _ = some (Value.slice none 0 0) from rfl))); (try (have gz4 := kx4.frozen 4)); (try (have g5 := (kx4.cell 5).trans (show _ = some (Value.string ⟨#[]⟩) from rfl))); (try (have gz5 := kx4.frozen 5)); clear hK hG)))
        all_goals
          go_wp2_with fail
          go_meet
          first
            | with_reducible exact lq_second J4.out kx4 (by first | exact ⟨_, J0.out, rfl⟩ | exact ⟨_, J0.out.drew, rfl⟩ | exact ⟨_, J1.out, rfl⟩ | exact ⟨_, J2.out, rfl⟩ | exact ⟨_, J3.out, rfl⟩) HR.out HMS2.out HSH2.out (fun b hb => ⟨hb.2, by have h1 := hb.1; first | (have h2 := kx3.lt; omega) | (simp at h1; omega)⟩)
            | with_reducible exact lq_first J4.out HR.out HMS2.out HSH2.out (fun b hb => hb.2)
      case rest =>
        rename World => y5
        obtain ⟨r, D, A2, n2, c2, Ak, ck, hr, rfl, rfl, rfl, hk3, hD, hm2, hs2⟩ := hcut
        obtain ⟨i0, hi, hz0, hz1, hz2⟩ := info_parts infoS
        have hca : 3 ≤ cl := by
          obtain ⟨_, _, _, hva, h1, h2, -⟩ := id hk3.sh
          injection hva with a1 a2 a3
          omega
        have hcb : 3 ≤ ck := by
          obtain ⟨_, _, _, hva, h1, h2, -⟩ := id hs2
          injection hva with a1 a2 a3
          omega
        have hN := hk3.nw
        have hne : ∀ j, j < 3 → markS (shAt (LK key 1) j).1 (shAt (LK key 1) j).2 ≠ markS (shAt (LK key (2 + r)) j).1 (shAt (LK key (2 + r)) j).2 := fun j hj => rep_ne key HKEY.out r j hr hj
        have hwx := HBO.out _ hk3.lsk
        have hd3 : ∀ s, ((LK key s).drop 1).length = 2 := fun s => by rw [List.length_drop, LK_len]
        have hrA : ∀ W, Below y5.heap.size y5 W → Calls Tryz.prog 27 #[.agg #[.int .i64 500000003, .int .i64 2, .int .i64 3, .int .i64 1, .slice A2 n2 c2, .string (shaOf key)], .slice (subA Ak ck 1 2) 2 (ck - 1)] W fun e w' => e = .returned (.tuple #[.string key, .int .i64 0]) ∧ Below W.heap.size W w' := fun W hW =>
          rk_RecAll 1 (by decide) (by decide) key HK16.out (2 + r) ((LK key (2 + r)).drop 1) (some_drop _) (by rw [hd3]; decide) (by rw [hd3]; decide) _ _ _ _ W (hwx.below hW) ((hs2.drop1 (by decide) (by omega)).keep fun b hb => hW.block b hb) (fun b hb => Nat.lt_of_lt_of_le hb hW.size) (hm2.keep fun b hb => hW.block b hb) (fun b hb => Nat.lt_of_lt_of_le hb hW.size)
        have hrB : ∀ W, Below y5.heap.size y5 W → Calls Tryz.prog 27 #[.agg #[.int .i64 500000003, .int .i64 2, .int .i64 3, .int .i64 1, .slice A2 n2 c2, .string (shaOf key)], .slice Al 3 cl] W fun e w' => e = .returned (.tuple #[.string ⟨#[]⟩, .int .i64 5]) ∧ Below W.heap.size W w' := fun W hW =>
          rk_RecNone 1 (by decide) (by decide) key HK16.out 1 (2 + r) hne _ _ _ _ W (hwx.below hW) (hk3.sh.keep fun b hb => hW.block b (by omega)) (fun b hb => by have := hW.size; omega) (hm2.keep fun b hb => hW.block b hb) (fun b hb => Nat.lt_of_lt_of_le hb hW.size)
        have hsm : ∀ i, i < 3 → ∀ W, Below y5.heap.size y5 W → Calls Tryz.prog 32 #[.slice (subA Al cl i 2) 1 (cl - i), .slice (subA Ak ck i 2) 1 (ck - i)] W (BoolBelow false W) := fun i hi W hW => by
          have e1 := LK_at key 1 i hi
          have e2 := LK_at key (2 + r) i hi
          refine r_SameNe _ _ [shAt (LK key 1) i] [shAt (LK key (2 + r)) i] _ _ W ((hk3.sh.one hi).keep fun b hb => hW.block b (by omega)) ((hs2.one hi).keep fun b hb => hW.block b hb) (fun b hb => by have := hW.size; omega) (fun b hb => Nat.lt_of_lt_of_le hb hW.size) rfl rfl ?_ ?_ ?_ ?_
          · show (shAt (LK key 1) i).2.length ≤ _
            rw [e1]; simp [sec6 key HK16.out]
          · show (shAt (LK key (2 + r)) i).2.length ≤ _
            rw [e2]; simp [sec6 key HK16.out]
          · show (shAt (LK key 1) i).1 = (shAt (LK key (2 + r)) i).1
            rw [e1, e2]
          · show (shAt (LK key 1) i).2 ≠ (shAt (LK key (2 + r)) i).2
            intro e
            refine hne i hi ?_
            have e3 : (shAt (LK key 1) i).1 = (shAt (LK key (2 + r)) i).1 := by rw [e1, e2]
            rw [e, e3]
        have hfin : ∀ W, Below y5.heap.size y5 W → Below w.heap.size w W := fun W hW => by
          rw [HD.out]
          exact hk3.lsk.old.trans (hW.mono (Nat.le_of_lt hk3.lsk.dice.lt))
        have hsl := fun (W : World) => run_slice_lo (P := Tryz.prog) W 41 49 i0 2 Tryz.underlying41 hi hz1 Ak 3 ck 1 (by decide) hcb (1 : Int) rfl
        simp only [show 3 - 1 = 2 from rfl] at hsl
        have c0 : y5.cell? ⟨D, 0, none⟩ = some (.int .i64 500000003) := hD.cell 0
        have c1 : y5.cell? ⟨D, 1, none⟩ = some (.int .i64 2) := hD.cell 1
        have c2' : y5.cell? ⟨D, 2, none⟩ = some (.int .i64 3) := hD.cell 2
        have c3 : y5.cell? ⟨D, 3, none⟩ = some (.int .i64 1) := hD.cell 3
        have c4 : y5.cell? ⟨D, 4, none⟩ = some (.slice A2 n2 c2) := hD.cell 4
        have c5 : y5.cell? ⟨D, 5, none⟩ = some (.string (shaOf key)) := hD.cell 5
        have hDl := hD.lt
        have hCl := hk3.blk.lt
        have cc3 : y5.cell? ⟨C, 3, none⟩ = some (.int .i64 0) := hk3.blk.cell 3
        have hb0 := Below.refl y5.heap.size y5
        have HRA := Lib.hid hrA
        have HRB := Lib.hid hrB
        have HSM := Lib.hid hsm
        have HFIN := Lib.hid hfin
        have CC3 := Lib.hid cc3
        have HDB := Lib.hid hD
        clear hrA hrB hsm hfin hk3 hD hm2 hs2 hne hwx hd3 hr cc3 HBO JNX JND JFL JRP J0 HKEY
        go_wp2_with fail
        go_region_held3 (fun W => W.cell? ⟨D, 0, none⟩ = some (.int .i64 500000003) ∧ W.cell? ⟨D, 1, none⟩ = some (.int .i64 2) ∧ W.cell? ⟨D, 2, none⟩ = some (.int .i64 3) ∧ W.cell? ⟨D, 3, none⟩ = some (.int .i64 1) ∧ W.cell? ⟨D, 4, none⟩ = some (.slice A2 n2 c2) ∧ W.cell? ⟨D, 5, none⟩ = some (.string (shaOf key)) ∧ Below y5.heap.size y5 W)
          (first
            | exact ⟨c0, c1, c2', c3, c4, c5, hb0.drew⟩
            | (go_split_ands
               refine ⟨?_, ?_, ?_, ?_, ?_, ?_, ?_⟩
               · (rw [hbk.cell (World.block_lt_of_cell? _ _ ‹_›)]; assumption)
               · (rw [hbk.cell (World.block_lt_of_cell? _ _ ‹_›)]; assumption)
               · (rw [hbk.cell (World.block_lt_of_cell? _ _ ‹_›)]; assumption)
               · (rw [hbk.cell (World.block_lt_of_cell? _ _ ‹_›)]; assumption)
               · (rw [hbk.cell (World.block_lt_of_cell? _ _ ‹_›)]; assumption)
               · (rw [hbk.cell (World.block_lt_of_cell? _ _ ‹_›)]; assumption)
               · exact Below.trans ‹Below y5.heap.size y5 _› (hbk.mono (‹Below y5.heap.size y5 _›).size)))
          (first
            | (go_at_call 27; ((with_reducible refine (HRA.out _ (by go_split_ands; assumption)).mono ?_); rintro e wk ⟨rfl, hbk⟩)))
        go_split_ands
        have hbA : Below y5.heap.size y5 wk := by assumption
        have d0 : wk.cell? ⟨D, 0, none⟩ = some (.int .i64 500000003) := by assumption
        have d1 : wk.cell? ⟨D, 1, none⟩ = some (.int .i64 2) := by assumption
        have d2 : wk.cell? ⟨D, 2, none⟩ = some (.int .i64 3) := by assumption
        have d3 : wk.cell? ⟨D, 3, none⟩ = some (.int .i64 1) := by assumption
        have d4 : wk.cell? ⟨D, 4, none⟩ = some (.slice A2 n2 c2) := by assumption
        have d5 : wk.cell? ⟨D, 5, none⟩ = some (.string (shaOf key)) := by assumption
        clear c0 c1 c2' c3 c4 c5 hb0
        clear hbk
        go_wp2_with fail
        refine (HRB.out _ hbA).mono ?_
        rintro e wk2 ⟨rfl, hb2⟩
        have hbB := hbA.trans (hb2.mono hbA.size)
        have HBB := Lib.hid hbB
        clear d0 d1 d2 d3 d4 d5 hbA hb2 hbB
        go_wp2_with fail
        go_loopw [16, 17] (fun s t wr => ∃ i : Nat, i ≤ 3 ∧ s = .int .i64 0 ∧ t = .int .i64 (i : Int) ∧ Below y5.heap.size y5 wr) (fun _ t _ => 3 - (intOf t).toNat)
        case atStart => exact ⟨0, by omega, rfl, rfl, HBB.out⟩
        case round =>
          obtain ⟨i, hi3, rfl, rfl, hbl⟩ := hrel
          have HBL := Lib.hid hbl
          clear hbl
          by_cases hlt : i < 3
          · have q0 : (0 : Int) ≤ (i : Int) := by omega
            have q1 : (i : Int) < 3 := by omega
            have hw1 : IntKind.i64.wrap ((i : Int) + 1) = (i : Int) + 1 := IntWalk.i64_in _ ⟨by omega, by omega⟩
            have hl1 := fun (W : World) => run_slice_lohi (P := Tryz.prog) W 41 49 i0 2 Tryz.underlying41 hi hz1 Al 3 cl i (i + 1) (by omega) (by omega) (i : Int) ((i : Int) + 1) rfl rfl
            have hl2 := fun (W : World) => run_slice_lohi (P := Tryz.prog) W 41 49 i0 2 Tryz.underlying41 hi hz1 Ak 3 ck i (i + 1) (by omega) (by omega) (i : Int) ((i : Int) + 1) rfl rfl
            simp only [show i + 1 - i = 1 by omega] at hl1 hl2
            have HS := Lib.hid (HSM.out i hlt)
            go_wp2_with fail
            go_region_held3 (fun W => Hid (Below y5.heap.size y5 W))
              (first
                | exact Lib.hid HBL.out.drew
                | exact Lib.hid hbk)
              (first
                | (go_at_call 32; ((with_reducible refine (HS.out _ HBL.out.drew).mono ?_); rintro e wk3 ⟨rfl, hbk0⟩; have hbk := HBL.out.drew.trans (hbk0.mono HBL.out.size))))
            have HBK := Lib.hid hbk
            clear hbk hbk0
            go_wp2_with fail
            go_roundw
            case measure => simp [intOf]; omega
            case rel => exact ⟨i + 1, by omega, rfl, by go_num, HBK.out⟩
          · have hi' : i = 3 := by omega
            subst hi'
            go_wp2_with fail
            refine (HAW.out _ (HFIN.out _ HBL.out)).mono ?_
            rintro e wf ⟨rfl, hbf⟩
            have hbF := HBL.out.trans (hbf.mono HBL.out.size)
            have f3 : wf.cell? ⟨D, 3, none⟩ = some (.int .i64 1) := (hbF.cell (p := ⟨D, 3, none⟩) hDl).trans (HDB.out.cell 3)
            have g3 : wf.cell? ⟨C, 3, none⟩ = some (.int .i64 0) := (hbF.cell (p := ⟨C, 3, none⟩) hCl).trans CC3.out
            have HE := Lib.hid (HFIN.out _ hbF)
            clear hbf hbF
            go_wp2_with fail
            go_ret
            exact ⟨rfl, HE.out⟩
  · have t1 : decide ((n : Int) ≤ 500) = false := decide_eq_false (by omega)
    have HW := Lib.hid hw
    clear hw haw
    go_enter Tryz.func7, Tryz.ntmps7
    go_wp2_with fail
    refine (k_Light A n c _ hn).mono ?_
    rintro e w' ⟨rfl, rfl⟩
    go_wp2_with fail
    refine (HAW.out _ (Below.refl _ _)).mono ?_
    rintro e w2 ⟨rfl, hb2⟩
    go_wp2_with fail
    go_ret
    exact ⟨rfl, hb2⟩
end Go.Proofs.YtjfphobfikadlaaGreatDoor
