/- Contracts: the closure that tries a choice of parts. -/
import Derived.Test.YtmneokkdkgflkaaDoorHanWrg
import Derived.OneCell
set_option linter.unusedVariables false
set_option linter.unusedSimpArgs false
namespace Go.Proofs.YtmneokkdkgflkaaDoor
open Go.RowKit Num

/-- The shares at some places. -/
def pickN (l : List Sh) (ns : List Nat) : List Sh := ns.map fun i => shAt l i
theorem pickN_len (l : List Sh) (ns : List Nat) : (pickN l ns).length = ns.length := by simp [pickN]
theorem pickN_at (l : List Sh) (ns : List Nat) (k : Nat) (h : k < ns.length) : shAt (pickN l ns) k = shAt l (ns.getD k 0) := by
  unfold pickN shAt
  rw [List.getD_eq_getElem?_getD, List.getElem?_map, List.getD_eq_getElem?_getD (l := ns), List.getElem?_eq_getElem h]; rfl
theorem PartsOk.pickN {p hold : Nat} {l : List Sh} (h : PartsOk p hold l) (ns : List Nat) (h1 : ∀ k, k < ns.length → ns.getD k 0 < l.length) (h2 : ∀ i j, i < ns.length → j < ns.length → i ≠ j → ns.getD i 0 ≠ ns.getD j 0) : PartsOk p hold (pickN l ns) := by
  refine ⟨fun k hk => ?_, fun i j hi hj hne => ?_, fun k hk => ?_, fun k hk => ?_⟩
  · rw [pickN_len] at hk; rw [pickN_at l ns k hk]; exact h.holder _ (h1 k hk)
  · rw [pickN_len] at hi hj; rw [pickN_at l ns i hi, pickN_at l ns j hj]; exact h.once _ _ (h1 i hi) (h1 j hj) (h2 i j hi hj hne)
  · rw [pickN_len] at hk; rw [pickN_at l ns k hk]; exact h.one _ (h1 k hk)
  · rw [pickN_len] at hk; rw [pickN_at l ns k hk]; exact h.grp _ (h1 k hk)
/-- A row of the call's own whose values lie elsewhere. -/
theorem own_shAt {w : World} {B n : Nat} {S : Nat → Prop} {v : Value} {cells : List Value} {L : List Sh} (hr : w.ownsRow B 63 2 v n cells) (hn : n = L.length) (hS : ∀ b, S b → b < w.heap.size)
    (hk : ∀ k, k < L.length → ∃ u, cells[2 * k]? = some (.int .i64 (shAt L k).1) ∧ cells[2 * k + 1]? = some u ∧ IntsAt w S u (shAt L k).2) : ShAt w (fun b => b < w.heap.size) v L := by
  subst hn
  rcases hr.2 with ⟨rfl, h0⟩ | ⟨g, cap, cur, rfl, hB, hh, hnc, hm, hs, ht⟩
  · exact ⟨none, 0, 0, rfl, h0.symm, Nat.le_refl _, fun h => by omega⟩
  · refine ⟨_, L.length, cap, rfl, rfl, hnc, fun hn => ⟨g, 0, rfl, (Array.getElem?_eq_some_iff.1 hh).1, fun k hk' => ?_⟩⟩
    obtain ⟨u, h1, h2, h3⟩ := hk k hk'
    have hc := hr.cells (g := g) rfl
    have ha : ∀ j, (⟨g, 0, none⟩ : Addr).add j = ⟨g, 0 + j, none⟩ := fun j => by unfold Addr.add; split <;> simp_all
    refine ⟨u, ?_, ?_, h3.mono hS⟩
    · have := hc _ _ h1; rwa [ha, Nat.mul_comm] at this
    · have := hc _ _ h2; rwa [ha, Nat.mul_comm] at this
theorem own_form {w : World} {B n : Nat} {e : TypeId} {v : Value} {xs : List Value} (h : w.ownsRow B e 1 v n xs) : ∃ A c, v = .slice A n c := by
  rcases h.2 with ⟨rfl, rfl⟩ | ⟨g, cap, cur, rfl, _⟩
  · exact ⟨none, 0, rfl⟩
  · exact ⟨_, cap, rfl⟩
/-- What the closure reads: the list, the group, the plan. -/
structure RobIn (p need hold bl bg bp : Nat) (vl : Value) (l : List Sh) (S : Nat → Prop) (w : World) : Prop where
  lst : Blk w bl 32 #[vl]
  grp : Blk w bg 78 #[.int .i64 (p : Int), .int .i64 (2 * (p : Int) + 1)]
  pln : Blk w bp 29 #[.int .i64 (p : Int), .int .i64 (need : Int), .int .i64 (hold : Int)]
  sh : ShAt w S vl l
  old : ∀ b, S b → b < w.heap.size
theorem RobIn.below {p need hold bl bg bp : Nat} {vl : Value} {l : List Sh} {S : Nat → Prop} {w w' : World} (h : RobIn p need hold bl bg bp vl l S w) (hb : Below w.heap.size w w') : RobIn p need hold bl bg bp vl l S w' :=
  ⟨h.lst.below hb h.lst.lt, h.grp.below hb h.grp.lt, h.pln.below hb h.pln.lt, h.sh.keep fun b hb' => hb.block b (h.old b hb'), fun b hb' => Nat.lt_of_lt_of_le (h.old b hb') hb.size⟩
/-- Nothing has been found. -/
structure RobNo (bh bw be : Nat) (w : World) : Prop where
  hn : Blk w bh 3 #[.int .i64 0]
  ls : Blk w bw 22 #[.slice none 0 0]
  er : Blk w be 33 #[.int .i64 9]
theorem RobNo.below {bh bw be : Nat} {w w' : World} (h : RobNo bh bw be w) (hb : Below w.heap.size w w') : RobNo bh bw be w' :=
  ⟨h.hn.below hb h.hn.lt, h.ls.below hb h.ls.lt, h.er.below hb h.er.lt⟩
/-- A choice has been found. -/
structure RobYes (p bh bw be base : Nat) (l : List Sh) (ns : List Nat) (w : World) : Prop where
  hn : Blk w bh 3 #[.int .i64 (hAt p (pickN l ns) 0 ns.length : Int)]
  ls : ∃ v, Blk w bw 22 #[v] ∧ w.ownsRow base 3 1 v (wrL p (pickN l ns) l).length ((srt (wrL p (pickN l ns) l)).map (Value.int .i64))
  er : Blk w be 33 #[.int .i64 0]
/-- Few enough do not agree. -/
def small (p need : Nat) (l : List Sh) (ns : List Nat) : Bool := decide ((wrL p (pickN l ns) l).length ≤ (l.length - need) / 2)
def Rob1Post (p need bh bw be : Nat) (l : List Sh) (ns : List Nat) (w : World) (e : Ending) (w' : World) : Prop :=
  if small p need l ns = true then e = .returned (.bool false) ∧ RobYes p bh bw be w.heap.size l ns w' ∧ w.heap.size ≤ w'.heap.size ∧ w'.os = w.os ∧ w'.tape = w.tape ∧ w'.output = w.output ∧ (∀ b, b < w.heap.size → b ≠ bh → b ≠ bw → b ≠ be → w'.heap[b]? = w.heap[b]?)
  else e = .returned (.bool true) ∧ Below w.heap.size w w'

set_option maxRecDepth 100000 in
set_option maxHeartbeats 4000000 in
theorem h_rob1 (p need hold bl bg bp bh bw be : Nat) (vl v : Value) (l : List Sh) (ns : List Nat) (S T : Nat → Prop) (w : World) (hp : SPrm p) (hin : RobIn p need hold bl bg bp vl l S w) (hno : RobNo bh bw be w)
    (hv : IntsAt w T v (ns.map Int.ofNat)) (hT : ∀ b, T b → b < w.heap.size) (h0 : 0 < ns.length) (hn : ns.length = need) (hnl : need ≤ l.length) (l1 : l.length ≤ 9) (hns : ∀ k, k < ns.length → ns.getD k 0 < l.length) (hne : ∀ i j, i < ns.length → j < ns.length → i ≠ j → ns.getD i 0 ≠ ns.getD j 0)
    (hol : PartsOk p hold l) (hh : hold < p) (d1 : bh ≠ bw) (d2 : bh ≠ be) (d3 : bw ≠ be) :
    Calls Tryd.prog 70 #[v, .pointer (some ⟨bl, 0, none⟩), .pointer (some ⟨bg, 0, none⟩), .pointer (some ⟨bp, 0, none⟩), .pointer (some ⟨bh, 0, none⟩), .pointer (some ⟨bw, 0, none⟩), .pointer (some ⟨be, 0, none⟩)] w (Rob1Post p need bh bw be l ns w) := by
  obtain ⟨A, n, c, rfl, hn', hnc, hcell⟩ := hv
  obtain ⟨i0, hi, hz0, hz1, hz2⟩ := info_parts infoI
  obtain ⟨j0, hj, hy0, hy1, hy2⟩ := info_parts infoS
  obtain ⟨Al, nl, cl, rfl, hln, hlc, hlcell⟩ := id hin.sh
  have p3 := hp.2.2.1
  have p4 := hp.2.2.2
  rw [List.length_map] at hn'
  have hoc := hol.pickN ns hns hne
  have hwr : ∀ W vc, Below w.heap.size w W → ShAt W (fun b => b < W.heap.size) vc (pickN l ns) → Calls Tryd.prog 71 #[.agg #[.int .i64 (p : Int), .int .i64 (2 * (p : Int) + 1)], .slice Al nl cl, vc] W (WrongPost p (pickN l ns) l W) := fun W vc hb hs =>
    h_wrong p hold _ vc l (pickN l ns) S (fun b => b < W.heap.size) W hp (hin.sh.keep fun b hb' => hb.block b (hin.old b hb')) (fun b hb' => Nat.lt_of_lt_of_le (hin.old b hb') hb.size) hs (fun b hb' => hb') (by omega) (by rw [pickN_len]; exact h0) (by rw [pickN_len]; omega) hol hoc hh
  have hat : ∀ W vc, ShAt W (fun b => b < W.heap.size) vc (pickN l ns) → Calls Tryd.prog 72 #[.agg #[.int .i64 (p : Int), .int .i64 (2 * (p : Int) + 1)], vc, .int .i64 0] W (IntBelow (hAt p (pickN l ns) 0 ns.length : Int) W) := fun W vc hs => by
    have := h_at p hold vc (pickN l ns) _ 0 W hp.1 p4 hs (fun b hb' => hb') (by rw [pickN_len]; exact h0) (by rw [pickN_len]; omega) (by omega) (by omega) hoc hh
    rwa [pickN_len] at this
  have n1 : n ≤ 9 := by omega
  have n0 : 0 < n := by omega
  have HIN := Lib.hid hin
  have HNO := Lib.hid hno
  have HWR := Lib.hid hwr
  have HAT := Lib.hid hat
  have HN := Lib.hid hn'
  have HND := Lib.hid hn
  have HNS := Lib.hid hns
  have HC := Lib.hid hcell
  have HLC := Lib.hid hlcell
  have HLN := Lib.hid hln
  have nl1 : nl ≤ 9 := by omega
  have nl0 : need ≤ nl := by omega
  clear hin hno hwr hat hn' hn hns hcell hlcell hln hoc hol hp hne h0 hnl l1
  go_enter Tryd.func70, Tryd.ntmps70
  go_wp2_with fail
  go_loopw [9, 15] (fun o t wr => ∃ (k : Nat) (cells : List Value), k ≤ n ∧ t = .int .i64 k ∧ wr.ownsRow w.heap.size 63 2 o k cells ∧
      (∀ q, q < k → ∃ u, cells[2 * q]? = some (.int .i64 (shAt l (ns.getD q 0)).1) ∧ cells[2 * q + 1]? = some u ∧ IntsAt w S u (shAt l (ns.getD q 0)).2) ∧ Below w.heap.size w wr) (fun _ t _ => n - (intOf t).toNat)
  case atStart => exact ⟨0, [], by omega, rfl, World.ownsRow_nil _ _ _ _, fun q hq => absurd hq (by omega), Below.refl _ _⟩
  case round =>
    obtain ⟨k, cells, hk, rfl, hown, hcs, hbl⟩ := hrel
    have HOWN := Lib.hid hown
    have HCS := Lib.hid hcs
    have HBL := Lib.hid hbl
    have hsz := hbl.size
    clear hown hcs hbl
    by_cases hlt : k < n
    · obtain ⟨bn, on_, rfl, hTn, hcn⟩ := HC.out (by omega)
      have hkn := HNS.out k (by rw [← HN.out]; exact hlt)
      obtain ⟨i, hi'⟩ : ∃ i, ns.getD k 0 = i := ⟨_, rfl⟩
      rw [hi'] at hkn
      have ck := (HBL.out.cell (p := ⟨bn, on_ + k, none⟩) (hT bn hTn)).trans (hcn k hlt)
      have e1 : (ns.map Int.ofNat).getD k 0 = (i : Int) := by
        rw [← hi', List.getD_eq_getElem?_getD, List.getElem?_map, List.getD_eq_getElem?_getD, List.getElem?_eq_getElem (show k < ns.length by rw [← HN.out]; exact hlt)]; rfl
      rw [e1] at ck
      have hil : i < nl := by rw [HLN.out]; exact hkn
      obtain ⟨b, off, rfl, hSb, hcl⟩ := HLC.out (by omega)
      obtain ⟨u, c0, c1, hu⟩ := hcl i hil
      have hbw := HIN.out.old b hSb
      have d0 := (HBL.out.cell (p := ⟨b, off + i * 2, none⟩) hbw).trans c0
      have d1' := (HBL.out.cell (p := ⟨b, off + i * 2 + 1, none⟩) hbw).trans c1
      have m0 : wr.cell? ⟨bl, 0, none⟩ = some (.slice (some ⟨b, off, none⟩) nl cl) := (HBL.out.cell (p := ⟨bl, 0, none⟩) HIN.out.lst.lt).trans (HIN.out.lst.cell 0)
      obtain ⟨Au, nu, cu, rfl, -⟩ := id hu
      obtain ⟨h, hh'⟩ : ∃ h, (shAt l i).1 = h := ⟨_, rfl⟩
      rw [hh'] at d0
      have HU := Lib.hid hu
      have HI := Lib.hid hi'
      have HH := Lib.hid hh'
      have qk : (k : Int) < (n : Int) := by omega
      have q0 : (0 : Int) ≤ (i : Int) := by omega
      have q1 : (i : Int) < (nl : Int) := by omega
      clear hcn hcl c0 c1 hu hi' hh' e1 hkn
      go_wp2_with (at_builtin; refine wpList_append_own _ rfl _ _ 32 rfl w.heap.size 63 j0 _ 2 32 Tryd.underlying32 hj hy0 hy1 hy2 rfl (by decide) _ _ _ rfl (HOWN.out.alloc _) ⟨wr.heap.size, 0, none⟩ 1 1 [.int .i64 h, .slice Au nu cu] rfl rfl (World.news_of_block (cs := #[.int .i64 h, .slice Au nu cu]) (t := 63) (fr := (0, 0)) (heap_alloc_new wr _)) (one2 rfl rfl) (by simp only [maxLen]; omega) (by omega) (by simp; omega) ?_)
      intro v5 w5 hown5 hgrow5 _
      have hg5 := grown_past hgrow5
      have hul : ∀ g, u9.ownBlock = some g → w.heap.size ≤ g := fun g hg => (HOWN.out.lt g hg).1
      have hb5 := HBL.out.grown hg5 hsz hul
      have hcl5 : ∀ q, q < k + 1 → ∃ u, (cells ++ [.int .i64 h, .slice Au nu cu])[2 * q]? = some (.int .i64 (shAt l (ns.getD q 0)).1) ∧ (cells ++ [.int .i64 h, .slice Au nu cu])[2 * q + 1]? = some u ∧ IntsAt w S u (shAt l (ns.getD q 0)).2 := fun q hq => by
        have hcl : cells.length = k * 2 := HOWN.out.1
        rcases Nat.lt_or_ge q k with hqk | hqk
        · obtain ⟨u, h1, h2, h3⟩ := HCS.out q hqk
          exact ⟨u, by rw [List.getElem?_append_left (by omega)]; exact h1, by rw [List.getElem?_append_left (by omega)]; exact h2, h3⟩
        · have hqe : q = k := by omega
          subst hqe
          refine ⟨.slice Au nu cu, ?_, ?_, by rw [HI.out]; exact HU.out⟩
          · rw [List.getElem?_append_right (by omega), hcl, show 2 * q - q * 2 = 0 by omega, HI.out, HH.out]; rfl
          · rw [List.getElem?_append_right (by omega), hcl, show 2 * q + 1 - q * 2 = 1 by omega]; rfl
      have HO5 := Lib.hid hown5
      have HC5 := Lib.hid hcl5
      have HB5 := Lib.hid hb5
      clear hown5 hgrow5 hg5 hul hb5 hcl5
      go_wp2_with fail
      go_roundw
      case measure => simp [intOf]; omega
      case rel => exact ⟨k + 1, _, by omega, by go_num, HO5.out, HC5.out, HB5.out⟩
    · have hkn : k = n := by omega
      subst hkn
      have hsh : ShAt wr (fun b => b < wr.heap.size) u9 (pickN l ns) := own_shAt HOWN.out (by rw [pickN_len]; exact HN.out) (S := S) (fun b hb => Nat.lt_of_lt_of_le (HIN.out.old b hb) hsz) (fun q hq => by
        rw [pickN_len] at hq
        obtain ⟨u, h1, h2, h3⟩ := HCS.out q (by rw [HN.out]; exact hq)
        rw [pickN_at l ns q hq]
        exact ⟨u, h1, h2, h3.keep fun b hb => HBL.out.block b (HIN.out.old b hb)⟩)
      have hin' := HIN.out.below HBL.out
      have hno' := HNO.out.below HBL.out
      have m0 : wr.cell? ⟨bl, 0, none⟩ = some (.slice Al nl cl) := hin'.lst.cell 0
      have m1 : wr.cell? ⟨bg, 0, none⟩ = some (.int .i64 (p : Int)) := hin'.grp.cell 0
      have m2 : wr.cell? ⟨bg, 1, none⟩ = some (.int .i64 (2 * (p : Int) + 1)) := hin'.grp.cell 1
      have HSH := Lib.hid hsh
      have HWW := Lib.hid (HWR.out wr u9 HBL.out hsh)
      have HI1 := Lib.hid hin'
      have HN1 := Lib.hid hno'
      clear hsh hin' hno' HWR HC HLC HCS HOWN
      go_wp2_with fail
      refine HWW.out.mono ?_
      rintro e w1 ⟨vx, rfl, hox, hbx⟩
      obtain ⟨Ax, cx, rfl⟩ := own_form hox
      obtain ⟨m, hm⟩ : ∃ m, (wrL p (pickN l ns) l).length = m := ⟨_, rfl⟩
      have hsm : small p need l ns = decide (m ≤ (nl - need) / 2) := by unfold small; rw [hm, HLN.out]
      have hml : m ≤ 9 := by rw [← hm]; exact Nat.le_trans (wrL_len _ _ _) (by rw [← HLN.out]; exact nl1)
      have hox' := hox
      rw [hm] at hox' ⊢
      have hin2 := HI1.out.below hbx
      have hno2 := HN1.out.below hbx
      have hb2 := HBL.out.trans (hbx.mono hsz)
      have hs2 : ShAt w1 (fun b => b < w1.heap.size) u9 (pickN l ns) := (HSH.out.keep fun b hb => hbx.block b hb).mono fun b hb => Nat.lt_of_lt_of_le hb hbx.size
      have k0 : w1.cell? ⟨bl, 0, none⟩ = some (.slice Al nl cl) := hin2.lst.cell 0
      have k1 : w1.cell? ⟨bp, 1, none⟩ = some (.int .i64 (need : Int)) := hin2.pln.cell 1
      have k2 : w1.cell? ⟨be, 0, none⟩ = some (.int .i64 9) := hno2.er.cell 0
      have k3 : w1.cell? ⟨bg, 0, none⟩ = some (.int .i64 (p : Int)) := hin2.grp.cell 0
      have k4 : w1.cell? ⟨bg, 1, none⟩ = some (.int .i64 (2 * (p : Int) + 1)) := hin2.grp.cell 1
      have HI2 := Lib.hid hin2
      have HN2 := Lib.hid hno2
      have HB2 := Lib.hid hb2
      have HOX := Lib.hid (own_mono hox hsz)
      have HM := Lib.hid hm
      have HSM := Lib.hid hsm
      have HAA := Lib.hid (HAT.out w1 u9 hs2)
      clear hox hox' hbx hm hsm hin2 hno2 hb2 hs2 HWW HAT HSH HI1 HN1 m0 m1 m2
      by_cases hle : m ≤ (nl - need) / 2
      · have hle' : (m : Int) ≤ ((nl : Int) - (need : Int)) / 2 := by omega
        go_wp2_with fail
        refine HAA.out.mono ?_
        rintro e w2 ⟨rfl, hb3⟩
        have hn3 := HN2.out.below hb3
        have hb4 := HB2.out.trans (hb3.mono HB2.out.size)
        have ho3 := HOX.out.kept (only_of_below hb3 none) (by cases (Value.slice Ax (wrL p (pickN l ns) l).length cx).ownBlock <;> simp)
        rw [HM.out] at ho3
        obtain ⟨H, hH⟩ : ∃ H : Int, (hAt p (pickN l ns) 0 ns.length : Int) = H := ⟨_, rfl⟩
        rw [hH]
        have c0 : w2.cell? ⟨bh, 0, none⟩ = some (.int .i64 0) := hn3.hn.cell 0
        have c1 : w2.cell? ⟨bw, 0, none⟩ = some (.slice none 0 0) := hn3.ls.cell 0
        have c2 : w2.cell? ⟨be, 0, none⟩ = some (.int .i64 9) := hn3.er.cell 0
        have f0 := hn3.hn.frozen 0
        have f1 := hn3.ls.frozen 0
        have f2 := hn3.er.frozen 0
        have HN3 := Lib.hid hn3
        have HB4 := Lib.hid hb4
        have HO3 := Lib.hid ho3
        have HH := Lib.hid hH
        have a1 := HNO.out.hn.lt
        have a2 := HNO.out.ls.lt
        have a3 := HNO.out.er.lt
        clear hn3 hb4 ho3 hH hb3 k0 k1 k2 k3 k4 HAA
        go_wp2_with fail
        go_ret
        have x0 := ((HN3.out.hn.set_ 0 (.int .i64 H)).far (p := ⟨bw, 0, none⟩) (by simpa using d1) (.slice Ax m cx)).far (p := ⟨be, 0, none⟩) (by simpa using d2) (.int .i64 0)
        have x1 := ((HN3.out.ls.far (p := ⟨bh, 0, none⟩) (by simpa using Ne.symm d1) (.int .i64 H)).set_ 0 (.slice Ax m cx)).far (p := ⟨be, 0, none⟩) (by simpa using d3) (.int .i64 0)
        have x2 := ((HN3.out.er.far (p := ⟨bh, 0, none⟩) (by simpa using Ne.symm d2) (.int .i64 H)).far (p := ⟨bw, 0, none⟩) (by simpa using Ne.symm d3) (.slice Ax m cx)).set_ 0 (.int .i64 0)
        have far : ∀ b, b ≠ bh → b ≠ bw → b ≠ be → (((w2.setCell ⟨bh, 0, none⟩ (.int .i64 H)).setCell ⟨bw, 0, none⟩ (.slice Ax m cx)).setCell ⟨be, 0, none⟩ (.int .i64 0)).heap[b]? = w2.heap[b]? := fun b e1 e2 e3 => by
          rw [Below.heap_setCell _ _ _ _ (by simpa using e3), Below.heap_setCell _ _ _ _ (by simpa using e2), Below.heap_setCell _ _ _ _ (by simpa using e1)]
        unfold Rob1Post
        rw [if_pos (by rw [HSM.out]; simpa using hle)]
        refine ⟨rfl, ⟨by rw [HH.out]; exact x0, ⟨.slice Ax m cx, x1, ?_⟩, x2⟩, by have := HB4.out.size; simpa [World.setCell] using this, HB4.out.os, HB4.out.tape, HB4.out.output, fun b hb e1 e2 e3 => (far b e1 e2 e3).trans (HB4.out.block b hb)⟩
        rw [HM.out]
        rcases HO3.out with ⟨o1, ⟨o2, o3⟩ | ⟨g, cap, cur, o2, o3, o4, o5⟩⟩
        · exact ⟨o1, .inl ⟨o2, o3⟩⟩
        · refine ⟨o1, .inr ⟨g, cap, cur, o2, o3, ?_, o5⟩⟩
          rw [far g (by omega) (by omega) (by omega)]
          exact o4
      · have hle' : ¬ (m : Int) ≤ ((nl : Int) - (need : Int)) / 2 := by omega
        go_wp2_with fail
        go_ret
        unfold Rob1Post
        rw [if_neg (by rw [HSM.out]; simpa using hle)]
        exact ⟨rfl, HB2.out⟩
end Go.Proofs.YtmneokkdkgflkaaDoor
