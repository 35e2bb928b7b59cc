/- Contract: pair.Alike's closure: two contents are alike. Contract: pair.Alike. -/
import Derived.Test.YtgeahbmaeaoeeaaGreatDoorQ32
import Derived.Test.YtgeahbmaeaoeeaaGreatDoorQ29
import Derived.Test.YtgeahbmaeaoeeaaGreatDoorQ33
import Derived.Test.YtgeahbmaeaoeeaaGreatDoorQ37
set_option linter.unusedVariables false
set_option linter.unusedSimpArgs false
namespace Go.Proofs.YtgeahbmaeaoeeaaGreatDoor
open Go.RowKit Num

/-- Two contents agree in all that is not secret. -/
def AlP (x y : Cnt) : Prop := padOk x.st = true ∧ padOk y.st = true ∧ padLen x.st = padLen y.st ∧ x.num = y.num ∧ x.time = y.time ∧ x.op = y.op ∧ (x.op = true → x.st = y.st)
theorem AlP.symm {x y : Cnt} (h : AlP x y) : AlP y x := ⟨h.2.1, h.1, h.2.2.1.symm, h.2.2.2.1.symm, h.2.2.2.2.1.symm, h.2.2.2.2.2.1.symm, fun hy => (h.2.2.2.2.2.2 (h.2.2.2.2.2.1.trans hy)).symm⟩
/-- What a statement must be for the walks. -/
structure StmW (s : Stm) : Prop where
  ok : StmOk s
  args : ∀ x ∈ s.cond, x.args.length ≤ 1000000
set_option maxRecDepth 100000 in
set_option maxHeartbeats 4000000 in
theorem q_Alike1 (x y : Cnt) (ub : Nat) (w : World) (hx : StmAt w (· < w.heap.size) x.va x.vc x.vs x.st) (hy : StmAt w (· < w.heap.size) y.va y.vc y.vs y.st) (okx : StmW x.st) (oky : StmW y.st) (hl : LibOk w) (hub : Blk w ub 3 #[.int .i64 8]) :
    Calls Tryz.prog 36 #[.agg (cntB x).toArray, .agg (cntB y).toArray, .pointer (some ⟨ub, 0, none⟩)] w (BoolIff (AlP x y) w) := by
  cases x with
  | mk n1 t1 o1 c1 s va vc vs =>
  cases y with
  | mk n2 t2 o2 c2 t ua uc us =>
  dsimp only at hx hy okx oky
  show Calls Tryz.prog 36 #[.agg #[.int .i64 n1, .int .i64 t1, .bool o1, .int .i64 c1, .string s.resp, .int .i64 s.dep, .int .i64 s.day, va, vc, vs], .agg #[.int .i64 n2, .int .i64 t2, .bool o2, .int .i64 c2, .string t.resp, .int .i64 t.dep, .int .i64 t.day, ua, uc, us], .pointer (some ⟨ub, 0, none⟩)] w _
  obtain ⟨Aa, na, ca, hva, -⟩ := id hx.aa
  obtain ⟨Ac, nc, cc, hvc, -⟩ := id hx.cc
  obtain ⟨As, ns, cs, hvs, -⟩ := id hx.ss
  obtain ⟨Ba, ma, da, hua, -⟩ := id hy.aa
  obtain ⟨Bc, mc, dc, huc, -⟩ := id hy.cc
  obtain ⟨Bs, ms, ds, hus, -⟩ := id hy.ss
  subst hva hvc hvs hua huc hus
  obtain ⟨o1b, ho1⟩ : ∃ o : Obj, o = .cells #[.int .i64 n1, .int .i64 t1, .bool o1, .int .i64 c1, .string s.resp, .int .i64 s.dep, .int .i64 s.day, .slice Aa na ca, .slice Ac nc cc, .slice As ns cs] 63 := ⟨_, rfl⟩
  have hb0 : Below w.heap.size w ((w.alloc (.cells #[.int .i64 n1, .int .i64 t1, .bool o1, .int .i64 c1, .string s.resp, .int .i64 s.dep, .int .i64 s.day, .slice Aa na ca, .slice Ac nc cc, .slice As ns cs] 63)).alloc (.cells #[.int .i64 n2, .int .i64 t2, .bool o2, .int .i64 c2, .string t.resp, .int .i64 t.dep, .int .i64 t.day, .slice Ba ma da, .slice Bc mc dc, .slice Bs ms ds] 63)) := ((Below.refl _ w).alloc (Nat.le_refl _) _).alloc (by simp) _
  have hx1 : Blk ((w.alloc (.cells #[.int .i64 n1, .int .i64 t1, .bool o1, .int .i64 c1, .string s.resp, .int .i64 s.dep, .int .i64 s.day, .slice Aa na ca, .slice Ac nc cc, .slice As ns cs] 63)).alloc (.cells #[.int .i64 n2, .int .i64 t2, .bool o2, .int .i64 c2, .string t.resp, .int .i64 t.dep, .int .i64 t.day, .slice Ba ma da, .slice Bc mc dc, .slice Bs ms ds] 63)) w.heap.size 63 #[.int .i64 n1, .int .i64 t1, .bool o1, .int .i64 c1, .string s.resp, .int .i64 s.dep, .int .i64 s.day, .slice Aa na ca, .slice Ac nc cc, .slice As ns cs] := (Blk.new w _ _).alloc _
  have hx2 := Blk.new (w.alloc (.cells #[.int .i64 n1, .int .i64 t1, .bool o1, .int .i64 c1, .string s.resp, .int .i64 s.dep, .int .i64 s.day, .slice Aa na ca, .slice Ac nc cc, .slice As ns cs] 63)) 63 #[.int .i64 n2, .int .i64 t2, .bool o2, .int .i64 c2, .string t.resp, .int .i64 t.dep, .int .i64 t.day, .slice Ba ma da, .slice Bc mc dc, .slice Bs ms ds]
  rw [World.size_alloc] at hx2
  have hub0 := (hub.alloc (.cells #[.int .i64 n1, .int .i64 t1, .bool o1, .int .i64 c1, .string s.resp, .int .i64 s.dep, .int .i64 s.day, .slice Aa na ca, .slice Ac nc cc, .slice As ns cs] 63)).alloc (.cells #[.int .i64 n2, .int .i64 t2, .bool o2, .int .i64 c2, .string t.resp, .int .i64 t.dep, .int .i64 t.day, .slice Ba ma da, .slice Bc mc dc, .slice Bs ms ds] 63)
  have hk := fun (W : World) (hB : Below w.heap.size w W) => And.intro ((hx.keep fun g hg => hB.block g hg).mono (T := (· < W.heap.size)) fun g hg => Nat.lt_of_lt_of_le hg hB.size) ((hy.keep fun g hg => hB.block g hg).mono (T := (· < W.heap.size)) fun g hg => Nat.lt_of_lt_of_le hg hB.size)
  have p1 := fun (W : World) (hB : Below w.heap.size w W) => q_padded s _ _ _ W (hk W hB).1 okx.ok (hl.later hB)
  have p2 := fun (W : World) (hB : Below w.heap.size w W) => q_padded t _ _ _ W (hk W hB).2 oky.ok (hl.later hB)
  have p3 := fun (W : World) (hB : Below w.heap.size w W) => s_Same s t _ _ _ _ _ _ W (hk W hB).1 (hk W hB).2 okx.ok oky.ok okx.args oky.args
  have P1 := Lib.hid (p1 _ hb0)
  have P2 := Lib.hid p2
  have P3 := Lib.hid p3
  have HB0 := Lib.hid hb0
  have HX1 := Lib.hid hx1
  have HX2 := Lib.hid hx2
  have HUB := Lib.hid hub0
  have sz0 : w.heap.size + 2 = ((w.alloc (.cells #[.int .i64 n1, .int .i64 t1, .bool o1, .int .i64 c1, .string s.resp, .int .i64 s.dep, .int .i64 s.day, .slice Aa na ca, .slice Ac nc cc, .slice As ns cs] 63)).alloc (.cells #[.int .i64 n2, .int .i64 t2, .bool o2, .int .i64 c2, .string t.resp, .int .i64 t.dep, .int .i64 t.day, .slice Ba ma da, .slice Bc mc dc, .slice Bs ms ds] 63)).heap.size := by simp
  have SZ0 := Lib.hid sz0
  have u0 := (hub0.cell 0).trans (show _ = some (Value.int .i64 8) from rfl)
  clear hb0 hx1 hx2 hub0 hk p1 p2 p3 hx hy okx oky hl hub sz0 ho1 o1b
  go_enter Tryz.func36, Tryz.ntmps36
  go_wp2_with fail
  refine P1.out.mono ?_
  rintro e w1 ⟨X, b1, rfl, hb1, hX, hXs, hB1⟩
  have HB1 := Lib.hid (HB0.out.trans (hB1.mono HB0.out.size))
  have HX11 := Lib.hid (HX1.out.below hB1 (by have := SZ0.out; omega))
  have HX21 := Lib.hid (HX2.out.below hB1 (by have := SZ0.out; omega))
  have u1 := ((HUB.out.below hB1 HUB.out.lt).cell 0).trans (show _ = some (Value.int .i64 8) from rfl)
  have k0 := (HX21.out.cell 4).trans (show _ = some (Value.string t.resp) from rfl)
  have k1 := (HX21.out.cell 5).trans (show _ = some (Value.int .i64 t.dep) from rfl)
  have k2 := (HX21.out.cell 6).trans (show _ = some (Value.int .i64 t.day) from rfl)
  have k3 := (HX21.out.cell 7).trans (show _ = some (Value.slice Ba ma da) from rfl)
  have k4 := (HX21.out.cell 8).trans (show _ = some (Value.slice Bc mc dc) from rfl)
  have k5 := (HX21.out.cell 9).trans (show _ = some (Value.slice Bs ms ds) from rfl)
  have Hb1 := Lib.hid hb1
  have HXX := Lib.hid hX
  have HS1 := Lib.hid HB1.out.size
  clear hb1 hX hB1 u0
  go_wp2_with fail
  refine (P2.out _ HB1.out).mono ?_
  rintro e w2 ⟨Y, b2, rfl, hb2, hY, hYs, hB2⟩
  have HB2 := Lib.hid (HB1.out.trans (hB2.mono HB1.out.size))
  have HX12 := HX11.out.below hB2 HX11.out.lt
  have HX22 := HX21.out.below hB2 HX21.out.lt
  have HSM := Lib.hid (P3.out _ HB2.out)
  have Hb2 := Lib.hid hb2
  have HYY := Lib.hid hY
  have a0 := (HX12.cell 0).trans (show _ = some (Value.int .i64 n1) from rfl)
  have a1 := (HX12.cell 1).trans (show _ = some (Value.int .i64 t1) from rfl)
  have a2 := (HX12.cell 2).trans (show _ = some (Value.bool o1) from rfl)
  have a4 := (HX12.cell 4).trans (show _ = some (Value.string s.resp) from rfl)
  have a5 := (HX12.cell 5).trans (show _ = some (Value.int .i64 s.dep) from rfl)
  have a6 := (HX12.cell 6).trans (show _ = some (Value.int .i64 s.day) from rfl)
  have a7 := (HX12.cell 7).trans (show _ = some (Value.slice Aa na ca) from rfl)
  have a8 := (HX12.cell 8).trans (show _ = some (Value.slice Ac nc cc) from rfl)
  have a9 := (HX12.cell 9).trans (show _ = some (Value.slice As ns cs) from rfl)
  have k0 := (HX22.cell 0).trans (show _ = some (Value.int .i64 n2) from rfl)
  have k1 := (HX22.cell 1).trans (show _ = some (Value.int .i64 t2) from rfl)
  have k2 := (HX22.cell 2).trans (show _ = some (Value.bool o2) from rfl)
  have k4 := (HX22.cell 4).trans (show _ = some (Value.string t.resp) from rfl)
  have k5 := (HX22.cell 5).trans (show _ = some (Value.int .i64 t.dep) from rfl)
  have k6 := (HX22.cell 6).trans (show _ = some (Value.int .i64 t.day) from rfl)
  have k7 := (HX22.cell 7).trans (show _ = some (Value.slice Ba ma da) from rfl)
  have k8 := (HX22.cell 8).trans (show _ = some (Value.slice Bc mc dc) from rfl)
  have k9 := (HX22.cell 9).trans (show _ = some (Value.slice Bs ms ds) from rfl)
  clear hb2 hY hB2 u1 HX12 HX22 P1 P2 P3 HX11 HX21 HX1 HX2 HUB SZ0 HB0 HB1 HS1
  cases b1
  · have HNO : Hid (¬ AlP ⟨n1, t1, o1, c1, s, .slice Aa na ca, .slice Ac nc cc, .slice As ns cs⟩ ⟨n2, t2, o2, c2, t, .slice Ba ma da, .slice Bc mc dc, .slice Bs ms ds⟩) := Lib.hid fun h => absurd (Hb1.out.trans h.1) (by decide)
    go_wp2_with fail
    go_ret
    exact BoolIff.no HNO.out HB2.out
  cases b2
  · have HNO : Hid (¬ AlP ⟨n1, t1, o1, c1, s, .slice Aa na ca, .slice Ac nc cc, .slice As ns cs⟩ ⟨n2, t2, o2, c2, t, .slice Ba ma da, .slice Bc mc dc, .slice Bs ms ds⟩) := Lib.hid fun h => absurd (Hb2.out.trans h.2.1) (by decide)
    go_wp2_with fail
    go_ret
    exact BoolIff.no HNO.out HB2.out
  have lx := HXX.out rfl
  have ly := HYY.out rfl
  have LX := Lib.hid lx
  have LY := Lib.hid ly
  clear lx ly
  by_cases h1 : X.size = Y.size
  case neg =>
    have z1 : ((X.size : Int) == (Y.size : Int)) = false := by simp; omega
    have HNO : Hid (¬ AlP ⟨n1, t1, o1, c1, s, .slice Aa na ca, .slice Ac nc cc, .slice As ns cs⟩ ⟨n2, t2, o2, c2, t, .slice Ba ma da, .slice Bc mc dc, .slice Bs ms ds⟩) := Lib.hid fun h => h1 (by rw [LX.out, LY.out]; exact h.2.2.1)
    clear h1
    go_wp2_with fail
    go_ret
    exact BoolIff.no HNO.out HB2.out
  have z1 : ((X.size : Int) == (Y.size : Int)) = true := by simp; omega
  have H1 := Lib.hid h1
  clear h1
  by_cases h2 : n1 = n2
  case neg =>
    have z2 : (n1 == n2) = false := by simpa using h2
    have HNO : Hid (¬ AlP ⟨n1, t1, o1, c1, s, .slice Aa na ca, .slice Ac nc cc, .slice As ns cs⟩ ⟨n2, t2, o2, c2, t, .slice Ba ma da, .slice Bc mc dc, .slice Bs ms ds⟩) := Lib.hid fun h => h2 h.2.2.2.1
    clear h2
    go_wp2_with fail
    go_ret
    exact BoolIff.no HNO.out HB2.out
  have z2 : (n1 == n2) = true := by simpa using h2
  have H2 := Lib.hid h2
  clear h2
  by_cases h3 : t1 = t2
  case neg =>
    have z3 : (t1 == t2) = false := by simpa using h3
    have HNO : Hid (¬ AlP ⟨n1, t1, o1, c1, s, .slice Aa na ca, .slice Ac nc cc, .slice As ns cs⟩ ⟨n2, t2, o2, c2, t, .slice Ba ma da, .slice Bc mc dc, .slice Bs ms ds⟩) := Lib.hid fun h => h3 h.2.2.2.2.1
    clear h3
    go_wp2_with fail
    go_ret
    exact BoolIff.no HNO.out HB2.out
  have z3 : (t1 == t2) = true := by simpa using h3
  have H3 := Lib.hid h3
  clear h3
  by_cases h4 : o1 = o2
  case neg =>
    have z4 : (o1 == o2) = false := by simpa using h4
    have HNO : Hid (¬ AlP ⟨n1, t1, o1, c1, s, .slice Aa na ca, .slice Ac nc cc, .slice As ns cs⟩ ⟨n2, t2, o2, c2, t, .slice Ba ma da, .slice Bc mc dc, .slice Bs ms ds⟩) := Lib.hid fun h => h4 h.2.2.2.2.2.1
    clear h4
    go_wp2_with fail
    go_ret
    exact BoolIff.no HNO.out HB2.out
  subst h4
  cases o1
  · go_wp2_with fail
    go_ret
    exact BoolIff.yes ⟨Hb1.out.symm, Hb2.out.symm, by show padLen s = padLen t; rw [← LX.out, ← LY.out]; exact H1.out, H2.out, H3.out, rfl, fun h => by cases h⟩ HB2.out
  · go_wp2_with fail
    refine HSM.out.mono ?_
    rintro e w3 ⟨b3, rfl, hb3, hB3⟩
    have HB3 := Lib.hid (HB2.out.trans (hB3.mono HB2.out.size))
    have HBB := Lib.hid hb3
    clear hb3 hB3
    go_wp2_with fail
    go_ret
    refine ⟨⟨b3, by cases b3 <;> rfl, ⟨fun h => ⟨Hb1.out.symm, Hb2.out.symm, by show padLen s = padLen t; rw [← LX.out, ← LY.out]; exact H1.out, H2.out, H3.out, rfl, fun _ => HBB.out.1 h⟩, fun h => HBB.out.2 (h.2.2.2.2.2.2 rfl)⟩⟩, HB3.out⟩
end Go.Proofs.YtgeahbmaeaoeeaaGreatDoor
namespace Go.Proofs.YtgeahbmaeaoeeaaGreatDoor
open Go.RowKit Num

/-- Two lists of contents agree in all that is not secret. -/
def AlL (L M : List Cnt) : Prop := L.length = M.length ∧ ∀ i (h : i < L.length) (h' : i < M.length), AlP L[i] M[i]
theorem AlL.symm {L M : List Cnt} (h : AlL L M) : AlL M L := ⟨h.1.symm, fun i h1 h2 => (h.2 i h2 h1).symm⟩
def StmsW (L : List Cnt) : Prop := ∀ x ∈ L, StmW x.st
set_option maxRecDepth 100000 in
set_option maxHeartbeats 2000000 in
theorem q_EqAlk (v u : Value) (L M : List Cnt) (ub : Nat) (w : World) (hv : CntsAt w (· < w.heap.size) v L) (hu : CntsAt w (· < w.heap.size) u M) (hl : L.length ≤ 1000000) (hm : M.length ≤ 1000000) (okv : StmsW L) (oku : StmsW M) (hlib : LibOk w)
    (hub : Blk w ub 3 #[.int .i64 8]) :
    Calls Tryz.prog 35 #[v, u, .func (.func 36) #[] #[.pointer (some ⟨ub, 0, none⟩)]] w (BoolIff (AlL L M) w) := by
  obtain ⟨⟨A, n, c, rfl, hn, hnc, hA⟩, hsA⟩ := id hv
  obtain ⟨⟨B, m, k, rfl, hmm, hmk, hB⟩, hsB⟩ := id hu
  have n1 : n ≤ 1000000 := by omega
  have m1 : m ≤ 1000000 := by omega
  have HA := Lib.hid hA
  have HB := Lib.hid hB
  have HSA := Lib.hid hsA
  have HSB := Lib.hid hsB
  have HN := Lib.hid hn
  have HM := Lib.hid hmm
  have HOV := Lib.hid okv
  have HOU := Lib.hid oku
  have HLIB := Lib.hid hlib
  have HUB := Lib.hid hub
  have s1 := hub.lt
  clear hA hB hn hmm hl hm hv hu okv oku hlib hub hsA hsB
  by_cases hnm : n = m
  · subst hnm
    go_enter Tryz.func35, Tryz.ntmps35
    go_wp2_with fail
    go_loopw [7, 8, 9, 17] (fun v7 v8 v9 v17 wr => ∃ i : Nat, i ≤ n ∧ v17 = .int .i64 (i : Int) ∧ (∀ q, q < i → ∀ (h : q < L.length) (h' : q < M.length), AlP L[q] M[q]) ∧ Below w.heap.size w wr) (fun _ _ _ v17 _ => n - (intOf v17).toNat)
    case atStart => exact ⟨0, by omega, rfl, fun q hq => absurd hq (Nat.not_lt_zero _), Below.refl _ _⟩
    case round =>
      obtain ⟨i, hi, rfl, heq, hbr⟩ := hrel
      rename World => wr
      have HE := Lib.hid heq
      have HBR := Lib.hid hbr
      have hsz := hbr.size
      clear heq hbr
      by_cases hlt : i < n
      · have iL : i < L.length := by have := HN.out; omega
        have iM : i < M.length := by have := HM.out; omega
        obtain ⟨b1, o1, rfl, hS1, hc1⟩ := HA.out (by omega)
        obtain ⟨b2, o2, rfl, hS2, hc2⟩ := HB.out (by omega)
        have hxs := HSA.out _ (List.getElem_mem iL)
        have hys := HSB.out _ (List.getElem_mem iM)
        have okx := HOV.out _ (List.getElem_mem iL)
        have oky := HOU.out _ (List.getElem_mem iM)
        have cx := hc1 i iL
        have cy := hc2 i iM
        obtain ⟨x, hx⟩ : ∃ x, L[i]'iL = x := ⟨_, rfl⟩
        obtain ⟨y, hy⟩ : ∃ y, M[i]'iM = y := ⟨_, rfl⟩
        rw [hx] at hxs okx cx
        rw [hy] at hys oky cy
        have HXE := Lib.hid hx
        have HYE := Lib.hid hy
        clear hx hy hc1 hc2
        obtain ⟨xn, xt, xo, xc, xs, va, vc, vs⟩ := x
        obtain ⟨yn, yt, yo, yc, ys, ua, uc, us⟩ := y
        dsimp only at hxs hys okx oky
        obtain ⟨Aa, na, ca, hva, -⟩ := id hxs.aa
        obtain ⟨Ac, nc, cc, hvc, -⟩ := id hxs.cc
        obtain ⟨As, ns, cs, hvs, -⟩ := id hxs.ss
        obtain ⟨Ba, ma, da, hua, -⟩ := id hys.aa
        obtain ⟨Bc, mc, dc, huc, -⟩ := id hys.cc
        obtain ⟨Bs, ms, ds, hus, -⟩ := id hys.ss
        subst hva hvc hvs hua huc hus
        have e0 := (HBR.out.cell (p := ⟨b1, o1 + i * 10, none⟩) hS1).trans (cx 0 (by decide))
        have e1 := (HBR.out.cell (p := ⟨b1, o1 + i * 10 + 1, none⟩) hS1).trans (cx 1 (by decide))
        have e2 := (HBR.out.cell (p := ⟨b1, o1 + i * 10 + 2, none⟩) hS1).trans (cx 2 (by decide))
        have e3 := (HBR.out.cell (p := ⟨b1, o1 + i * 10 + 3, none⟩) hS1).trans (cx 3 (by decide))
        have e4 := (HBR.out.cell (p := ⟨b1, o1 + i * 10 + 4, none⟩) hS1).trans (cx 4 (by decide))
        have e5 := (HBR.out.cell (p := ⟨b1, o1 + i * 10 + 5, none⟩) hS1).trans (cx 5 (by decide))
        have e6 := (HBR.out.cell (p := ⟨b1, o1 + i * 10 + 6, none⟩) hS1).trans (cx 6 (by decide))
        have e7 := (HBR.out.cell (p := ⟨b1, o1 + i * 10 + 7, none⟩) hS1).trans (cx 7 (by decide))
        have e8 := (HBR.out.cell (p := ⟨b1, o1 + i * 10 + 8, none⟩) hS1).trans (cx 8 (by decide))
        have e9 := (HBR.out.cell (p := ⟨b1, o1 + i * 10 + 9, none⟩) hS1).trans (cx 9 (by decide))
        simp only [cntB, List.getElem?_cons_zero, List.getElem?_cons_succ] at e0 e1 e2 e3 e4 e5 e6 e7 e8 e9
        have hd : ∀ (o : Obj) (j : Nat), j < 10 → (wr.alloc o).cell? ⟨b2, o2 + i * 10 + j, none⟩ = (cntB ⟨yn, yt, yo, yc, ys, .slice Ba ma da, .slice Bc mc dc, .slice Bs ms ds⟩)[j]? := fun o j hj => (World.cell?_alloc_lt wr o ⟨b2, o2 + i * 10 + j, none⟩ (by show b2 < _; omega)).trans ((HBR.out.cell (p := ⟨b2, o2 + i * 10 + j, none⟩) hS2).trans (by rw [show o2 + i * 10 + j = o2 + (i * 10 + j) by omega]; exact cy j hj))
        have d0 := fun o => hd o 0 (by decide)
        have d1 := fun o => hd o 1 (by decide)
        have d2 := fun o => hd o 2 (by decide)
        have d3 := fun o => hd o 3 (by decide)
        have d4 := fun o => hd o 4 (by decide)
        have d5 := fun o => hd o 5 (by decide)
        have d6 := fun o => hd o 6 (by decide)
        have d7 := fun o => hd o 7 (by decide)
        have d8 := fun o => hd o 8 (by decide)
        have d9 := fun o => hd o 9 (by decide)
        simp only [cntB, List.getElem?_cons_zero, List.getElem?_cons_succ, Nat.add_zero] at d0 d1 d2 d3 d4 d5 d6 d7 d8 d9
        have zi : (i : Int) < (n : Int) := by omega
        have z0 : (0 : Int) ≤ (i : Int) := by omega
        have hbx : Below wr.heap.size wr ((wr.alloc (.cells #[.int .i64 xn, .int .i64 xt, .bool xo, .int .i64 xc, .string xs.resp, .int .i64 xs.dep, .int .i64 xs.day, .slice Aa na ca, .slice Ac nc cc, .slice As ns cs] 63)).alloc (.cells #[.int .i64 yn, .int .i64 yt, .bool yo, .int .i64 yc, .string ys.resp, .int .i64 ys.dep, .int .i64 ys.day, .slice Ba ma da, .slice Bc mc dc, .slice Bs ms ds] 63)) := ((Below.refl _ _).alloc (Nat.le_refl _) _).alloc (by simp) _
        have hbz := HBR.out.trans (hbx.mono hsz)
        have hcl := q_Alike1 ⟨xn, xt, xo, xc, xs, .slice Aa na ca, .slice Ac nc cc, .slice As ns cs⟩ ⟨yn, yt, yo, yc, ys, .slice Ba ma da, .slice Bc mc dc, .slice Bs ms ds⟩ ub _ ((hxs.keep fun g hg => hbz.block g hg).mono fun g hg => Nat.lt_of_lt_of_le hg hbz.size) ((hys.keep fun g hg => hbz.block g hg).mono fun g hg => Nat.lt_of_lt_of_le hg hbz.size) okx oky (HLIB.out.later hbz) ((HUB.out.below HBR.out s1).below hbx (by have := (HUB.out.below HBR.out s1).lt; omega))
        have HCL := Lib.hid hcl
        have HX := Lib.hid hbz
        clear hcl hbx hbz hxs hys okx oky cx cy hd
        go_wp2_with fail
        refine HCL.out.mono ?_
        rintro e w5 ⟨⟨b, rfl, hbb⟩, hB5⟩
        have HB5 := Lib.hid (HX.out.trans (hB5.mono HX.out.size))
        have HBB := Lib.hid hbb
        clear hbb hB5 HCL HX d0 d1 d2 d3 d4 d5 d6 d7 d8 d9 e0 e1 e2 e3 e4 e5 e6 e7 e8 e9
        cases b with
        | false =>
          go_wp2_with fail
          go_ret
          refine BoolIff.no (fun h => ?_) HB5.out
          have h2 := h.2 i iL iM
          rw [HXE.out, HYE.out] at h2
          exact absurd (HBB.out.2 h2) (by simp)
        | true =>
          go_wp2_with fail
          go_roundw
          case measure => simp [intOf]; omega
          case rel => exact ⟨i + 1, by omega, by go_num, (fun q hq h h' => by
            by_cases e : q = i
            · subst e
              rw [HXE.out, HYE.out]
              exact HBB.out.1 trivial
            · exact HE.out q (by omega) h h'), HB5.out⟩
      · have zi : ¬ (i : Int) < (n : Int) := by omega
        have he : AlL L M := ⟨by rw [← HN.out, ← HM.out], fun q hq hq' => HE.out q (by have := HN.out; omega) hq hq'⟩
        have HEQ := Lib.hid he
        clear he
        go_wp2_with fail
        go_ret
        exact BoolIff.yes HEQ.out HBR.out
  · have hne : ((n : Int) == (m : Int)) = false := by simp; omega
    have hne2 : ((n : Int) != (m : Int)) = true := by simp; omega
    have he : ¬ AlL L M := fun h => hnm (by rw [HN.out, HM.out, h.1])
    have HEQ := Lib.hid he
    clear he
    go_enter Tryz.func35, Tryz.ntmps35
    go_wp2_with fail
    go_ret
    exact BoolIff.no HEQ.out (Below.refl _ _)
set_option maxRecDepth 100000 in
set_option maxHeartbeats 1000000 in
theorem q_AlikeP (v u : Value) (L M : List Cnt) (w : World) (hv : CntsAt w (· < w.heap.size) v L) (hu : CntsAt w (· < w.heap.size) u M) (hl : L.length ≤ 1000000) (hm : M.length ≤ 1000000) (okv : StmsW L) (oku : StmsW M) (hlib : LibOk w) :
    Calls Tryz.prog 17 #[v, u, .int .i64 8] w (BoolIff (AlL L M) w) := by
  have hmf : ∀ (fn : Fn) (first cap : Array Value) (w : World), (Instr.makeFunc fn first cap).run Tryz.prog w = .ok (.func fn first cap) w := fun _ _ _ _ => rfl
  have hb0 : Below w.heap.size w (w.alloc (.cells #[.int .i64 8] 3)) := (Below.refl _ w).alloc (Nat.le_refl _) _
  have hcl := q_EqAlk v u L M w.heap.size _ (hv.up hb0) (hu.up hb0) hl hm okv oku (hlib.later hb0) (Blk.new w 3 #[.int .i64 8])
  have HCL := Lib.hid hcl
  have HB := Lib.hid hb0
  clear hcl hb0 hv hu okv oku hlib
  go_enter Tryz.func17, Tryz.ntmps17
  go_wp2_with fail
  refine HCL.out.mono ?_
  rintro e w5 ⟨⟨b, rfl, hbb⟩, hB5⟩
  have HB5 := Lib.hid (HB.out.trans (hB5.mono HB.out.size))
  have HBB := Lib.hid hbb
  clear hbb hB5 HCL
  go_wp2_with fail
  go_ret
  exact ⟨⟨b, rfl, HBB.out⟩, HB5.out⟩
end Go.Proofs.YtgeahbmaeaoeeaaGreatDoor
