/- Contracts: the handle of a name, whole. -/
import Derived.Test.YtmneokkdkgflkaaDoorHanOf
set_option linter.unusedVariables false
set_option linter.unusedSimpArgs false
namespace Go.Proofs.YtmneokkdkgflkaaDoor
open Go.RowKit Num

/-- The square of a text. -/
def sqN (p : Nat) (s : ByteArray) : Nat := (2 + (numB (shaOf s) 7).toNat % (2 * p - 2)) * (2 + (numB (shaOf s) 7).toNat % (2 * p - 2)) % (2 * p + 1)
theorem sqN_lt (p : Nat) (s : ByteArray) : sqN p s < 2 * p + 1 := Nat.mod_lt _ (by omega)
theorem sq_grp {p y : Nat} (hp : SPrm p) (h1 : 0 < y) (h2 : y < 2 * p + 1) : inG p (2 * p + 1) ((y * y % (2 * p + 1) : Nat) : Int) = true := by
  have h3 := hp.2.2.1
  have hm := hp.2.1
  have hnd : ¬ (2 * p + 1) ∣ y := fun h => by have := Nat.le_of_dvd h1 h; omega
  have h0 : y * y % (2 * p + 1) ≠ 0 := fun h => by
    rcases prm_dvd hm (Nat.dvd_of_mod_eq_zero h) with k | k <;> exact hnd k
  have hlt := Nat.mod_lt (y * y) (show 0 < 2 * p + 1 by omega)
  simp only [inG, decide_eq_true_eq, Int.toNat_natCast]
  refine ⟨by omega, by omega, ?_⟩
  rw [pw_mod_base]
  unfold pw
  rw [← Nat.pow_two, ← Nat.pow_mul]
  have := fermat1 hm hnd
  rwa [show 2 * p + 1 - 1 = 2 * p by omega] at this
theorem sqN_grp {p : Nat} (hp : SPrm p) (s : ByteArray) : inG p (2 * p + 1) (sqN p s : Int) = true := by
  have h3 := hp.2.2.1
  have := Nat.mod_lt (numB (shaOf s) 7).toNat (show 0 < 2 * p - 2 by omega)
  exact sq_grp hp (by omega) (by omega)
/-- Powers of the group are of the group. -/
theorem pw_grp {p x e : Nat} (hp : SPrm p) (hx : inG p (2 * p + 1) (x : Int) = true) : inG p (2 * p + 1) (pw (2 * p + 1) x e : Int) = true := by
  have h3 := hp.2.2.1
  simp only [inG, decide_eq_true_eq, Int.toNat_natCast] at hx ⊢
  have hpx : pw (2 * p + 1) (pw (2 * p + 1) x e) p = 1 := by
    rw [pw_pw, Nat.mul_comm e p, ← pw_pw, hx.2.2, pw_one, Nat.mod_eq_of_lt (by omega)]
  have hlt := pw_lt (m := 2 * p + 1) (by omega) x e
  refine ⟨?_, by omega, hpx⟩
  rcases Nat.eq_zero_or_pos (pw (2 * p + 1) x e) with h | h
  · rw [h] at hpx
    unfold pw at hpx
    rw [Nat.zero_pow (by omega)] at hpx
    simp at hpx
  · omega
/-- The parts of shares. -/
def ptL (p x : Nat) (L : List Sh) : List Sh := L.map fun s => (s.1, [(pw (2 * p + 1) x (s.2.getD 0 0).toNat : Int)])
theorem shAt_lt (L : List Sh) (k : Nat) (h : k < L.length) : shAt L k = L[k] := by
  unfold shAt; rw [List.getD_eq_getElem?_getD, List.getElem?_eq_getElem h]; rfl
theorem ptL_at (p x : Nat) (L : List Sh) (k : Nat) (h : k < L.length) : shAt (ptL p x L) k = ((shAt L k).1, [(pw (2 * p + 1) x ((shAt L k).2.getD 0 0).toNat : Int)]) := by
  rw [shAt_lt _ k (by simpa [ptL] using h), shAt_lt L k h]
  simp [ptL]
/-- Shares of one value each: holders of the plan, each once, elements of the field. -/
structure KeyOk (p hold : Nat) (L : List Sh) : Prop where
  holder : ∀ k, k < L.length → 1 ≤ (shAt L k).1 ∧ (shAt L k).1 ≤ hold
  once : ∀ i j, i < L.length → j < L.length → i ≠ j → (shAt L i).1 ≠ (shAt L j).1
  one : ∀ k, k < L.length → (shAt L k).2.length = 1
  elem : ∀ k, k < L.length → 0 ≤ (shAt L k).2.getD 0 0 ∧ (shAt L k).2.getD 0 0 < p
theorem KeyOk.parts {p hold x : Nat} {L : List Sh} (h : KeyOk p hold L) (hp : SPrm p) (hx : inG p (2 * p + 1) (x : Int) = true) : PartsOk p hold (ptL p x L) := by
  have hl : (ptL p x L).length = L.length := by simp [ptL]
  refine ⟨fun k hk => ?_, fun i j hi hj hne => ?_, fun k hk => ?_, fun k hk => ?_⟩
  · rw [hl] at hk; rw [ptL_at p x L k hk]; exact h.holder k hk
  · rw [hl] at hi hj; rw [ptL_at p x L i hi, ptL_at p x L j hj]; exact h.once i j hi hj hne
  · rw [hl] at hk; rw [ptL_at p x L k hk]; rfl
  · rw [hl] at hk; rw [ptL_at p x L k hk]; exact pw_grp hp hx
theorem h_SquareN (p : Nat) (s : ByteArray) (w : World) (hp : 2 ≤ p) (hp2 : p ≤ 1073741823) (hs : s.size < 4294967296) :
    Calls Tryd.prog 20 #[.int .i64 (p : Int), .string s] w (IntBelow (sqN p s : Int) w) := h_Square p s w hp hp2 hs

set_option maxRecDepth 100000 in
set_option maxHeartbeats 2000000 in
theorem h_Of (p need hold : Nat) (name : ByteArray) (v : Value) (L : List Sh) (S : Nat → Prop) (w : World) (hw : BasesOk w) (hp : SPrm p) (n1 : 1 ≤ need) (n2 : need ≤ hold) (n3 : hold ≤ 16) (n4 : hold < p) (hs : name.size < 4294967296)
    (hv : ShAt w S v L) (hS : ∀ b, S b → b < w.heap.size) (hl : L.length ≤ 16) (hn : need ≤ L.length) (ho : KeyOk p hold L) :
    Calls Tryd.prog 17 #[planV p need hold, .string name, v] w (Int2Below (hAt p ((ptL p (sqN p name) L).take need) 0 need) 0 w) := by
  have h4 := hp.2.2.2
  have h3 := hp.2.2.1
  have hxg := sqN_grp hp name
  have hxb := sqN_lt p name
  obtain ⟨x, hx⟩ : ∃ x, sqN p name = x := ⟨_, rfl⟩
  have hSq := h_SquareN p name
  rw [hx] at hxg hxb hSq ⊢
  obtain ⟨A, n, c, rfl, hnl, hnc, hc⟩ := id hv
  obtain ⟨j0, hj, hy0, hy1, hy2⟩ := info_parts infoS
  have hn16 : n ≤ 16 := by omega
  have hnn : need ≤ n := by omega
  have hpo := ho.parts hp hxg
  have hw0 := hw.alloc (.cells #[.int .i64 (p : Int), .int .i64 (need : Int), .int .i64 (hold : Int)] 29)
  have HW := Lib.hid hw
  have HW0 := Lib.hid hw0
  have HV := Lib.hid hv
  have HO := Lib.hid ho
  have HPO := Lib.hid hpo
  have HP := Lib.hid hp
  have HSQ := Lib.hid hSq
  have HXG := Lib.hid hxg
  have HNL := Lib.hid hnl
  clear hw hw0 hv ho hp hc hnl hx hSq hxg hpo
  unfold planV
  go_enter Tryd.func17, Tryd.ntmps17
  go_wp2_with fail
  refine (h_Modulus p _ HW0.out HP.out).mono ?_
  rintro e w' ⟨rfl, rfl⟩
  go_wp2_with fail
  refine (HSQ.out _ (by omega) h4 hs).mono ?_
  rintro e w1 ⟨rfl, hb1⟩
  have s1 := hb1.size
  have kp1 : Blk w1 w.heap.size 29 #[.int .i64 (p : Int), .int .i64 (need : Int), .int .i64 (hold : Int)] := (Blk.new w _ _).below hb1 (by simp)
  have hw1 : Below w.heap.size w w1 := ((Below.refl _ _).alloc (Nat.le_refl _) _).trans (hb1.mono (by simp))
  have l1 : w.heap.size < w1.heap.size := kp1.lt
  have KP1 := Lib.hid kp1
  have HB1 := Lib.hid hw1
  clear kp1 hw1 hb1 s1
  go_wp2_with fail
  go_loopw [11, 30] (fun o t wr => ∃ k : Nat, k ≤ n ∧ t = .int .i64 k ∧ OwnSh wr w1.heap.size o ((ptL p x L).take k) ∧ Below w1.heap.size w1 wr) (fun _ t _ => n - (intOf t).toNat)
  case atStart => exact ⟨0, by omega, rfl, OwnSh.nil _ _, Below.refl _ _⟩
  case round =>
    obtain ⟨k, hk, rfl, hown, hbl⟩ := hrel
    have hsr := hbl.size
    have kp := KP1.out.below hbl l1
    by_cases hlt : k < n
    · have hkl : k < L.length := by have := HNL.out; omega
      obtain ⟨A1, n1', c1, hv1, e1, e2, hcs⟩ := HV.out
      injection hv1 with v1 v2 v3
      subst v1 v2 v3
      obtain ⟨b, off, rfl, hSb, hcell⟩ := hcs (by omega)
      obtain ⟨u, m0, m1, hu⟩ := hcell k hlt
      obtain ⟨Au, nu, cu, rfl, f1, f2, f3⟩ := hu
      have hone := HO.out.one k hkl
      obtain ⟨bu, offu, rfl, hSu, hcu⟩ := f3 (by omega)
      have m2 := hcu 0 (by omega)
      have hel := HO.out.elem k hkl
      have hho := HO.out.holder k hkl
      have hpt := ptL_at p x L k hkl
      obtain ⟨h, hh⟩ := Int.eq_ofNat_of_zero_le (show 0 ≤ (shAt L k).1 by omega)
      obtain ⟨y, hy⟩ := Int.eq_ofNat_of_zero_le hel.1
      rw [hy] at m2 hel hpt
      rw [hh] at m0 hho hpt
      rw [Nat.add_zero] at m2
      rw [Int.toNat_natCast] at hpt
      have bb : b < w.heap.size := hS b hSb
      have bbu : bu < w.heap.size := hS bu hSu
      have hww : Below w.heap.size w wr := HB1.out.trans (hbl.mono (by omega))
      have r0 := (hww.cell (p := ⟨b, off + k * 2, none⟩) bb).trans m0
      have r1 := (hww.cell (p := ⟨b, off + k * 2 + 1, none⟩) bb).trans m1
      have r2 := (hww.cell (p := ⟨bu, offu, none⟩) bbu).trans m2
      have q0 : wr.cell? ⟨w.heap.size, 0, none⟩ = some (.int .i64 (p : Int)) := kp.cell 0
      have z3 : w.heap.size < wr.heap.size := kp.lt
      have hnu : nu = 1 := by omega
      subst hnu
      have qk : (k : Int) < (n : Int) := by omega
      have yp : y < p := by omega
      have hbo : BasesOk (wr.alloc (.cells #[.int .i64 (h : Int), .slice (some ⟨bu, offu, none⟩) 1 cu] 63)) := (HW.out.below hww).alloc _
      have hcu2 : (wr.alloc (.cells #[.int .i64 (h : Int), .slice (some ⟨bu, offu, none⟩) 1 cu] 63)).cell? ⟨bu, offu, none⟩ = some (.int .i64 (y : Int)) := (World.cell?_alloc_lt wr _ ⟨bu, offu, none⟩ (show bu < wr.heap.size by omega)).trans r2
      have HBO := Lib.hid hbo
      have HCU := Lib.hid hcu2
      have HBL := Lib.hid hbl
      have HOW := Lib.hid hown
      have HPT := Lib.hid hpt
      have h1cu : 1 ≤ cu := f2
      clear hcell hcu m0 m1 m2 hone hcs f1 f2 f3 e1 e2 hww hbo hcu2 hbl hown hpt hh hy r2 kp
      go_wp2_with fail
      refine (h_Part p x h y _ cu bu offu _ HBO.out HP.out HXG.out yp rfl (by simp; omega) HCU.out h1cu).mono ?_
      rintro e w2 ⟨vp, rfl, hvp, hb2⟩
      obtain ⟨g, cap, rfl⟩ : ∃ g cap, vp = .slice (some ⟨g, 0, none⟩) 1 cap := by
        rcases hvp.2 with ⟨_, h0⟩ | ⟨g, cap, cur, hv, _⟩
        · omega
        · exact ⟨g, cap, hv⟩
      have hb2' : Below wr.heap.size wr w2 := ((Below.refl _ _).alloc (Nat.le_refl _) _).trans (hb2.mono (by simp))
      have hvp2 : w2.ownsRow w1.heap.size 3 1 (.slice (some ⟨g, 0, none⟩) 1 cap) 1 [.int .i64 (pw (2 * p + 1) x y : Int)] := own_mono hvp (by simp; omega)
      obtain ⟨cells, hr, hkk⟩ := HOW.out.below hb2'
      have hlen : ((ptL p x L).take k).length = k := by rw [List.length_take]; simp [ptL]; omega
      rw [hlen] at hr
      have hb3 := HBL.out.trans (hb2'.mono hsr)
      have s3 := hb3.size
      have HVP := Lib.hid hvp2
      have HKK := Lib.hid hkk
      have HB3 := Lib.hid hb3
      have HLN := Lib.hid hlen
      clear hvp hb2 hb2' hvp2 hkk hb3 hlen
      go_wp2_with (at_builtin; refine wpList_append_own _ rfl _ _ 32 rfl w1.heap.size 63 j0 _ 2 32 Tryd.underlying32 hj hy0 hy1 hy2 rfl (by decide) _ _ _ rfl ((hr.alloc _).alloc _) ⟨w2.heap.size + 1, 0, none⟩ 1 1 [.int .i64 (h : Int), .slice (some ⟨g, 0, none⟩) 1 cap] rfl rfl ?c1 (one2 rfl rfl) (by simp only [maxLen]; omega) (by omega) (by simp; omega) ?_)
      case c1 =>
        have := World.news_of_block (cs := #[.int .i64 (h : Int), .slice (some ⟨g, 0, none⟩) 1 cap]) (t := 63) (fr := (0, 0)) (heap_alloc_new (w2.alloc (.cells #[.int .i64 (h : Int), .slice (some ⟨g, 0, none⟩) 1 cap] 63)) (.cells #[.int .i64 (h : Int), .slice (some ⟨g, 0, none⟩) 1 cap] 63))
        simpa using this
      intro v5 w5 hown5 hgrow5 _
      have hg5 := grown_past (grown_past hgrow5)
      have hul : ∀ g, u11.ownBlock = some g → w1.heap.size ≤ g := fun g hg => (hr.lt g hg).1
      have hsn := OwnSh.snoc (L := (ptL p x L).take k) (x := ((h : Int), [(pw (2 * p + 1) x y : Int)])) (by rw [HLN.out]; exact hr) HKK.out hg5 (by rw [HLN.out]; exact hown5) HVP.out
      have hb5 := HB3.out.grown hg5 s3 hul
      have HSN := Lib.hid hsn
      have HB5 := Lib.hid hb5
      clear hown5 hgrow5 hg5 hul hsn hb5 hr
      go_wp2_with fail
      go_roundw
      case measure => simp [intOf]; omega
      case rel =>
        refine ⟨k + 1, by omega, by go_num, ?_, HB5.out⟩
        have hkp : k < (ptL p x L).length := by simp [ptL]; omega
        have e : (ptL p x L).take (k + 1) = (ptL p x L).take k ++ [((h : Int), [(pw (2 * p + 1) x y : Int)])] := by
          rw [List.take_succ_eq_append_getElem hkp, ← shAt_lt _ k hkp, HPT.out]
        rw [e]
        exact HSN.out
    · have hkn : k = n := by omega
      subst hkn
      have q0 : wr.cell? ⟨w.heap.size, 0, none⟩ = some (.int .i64 (p : Int)) := kp.cell 0
      have q1 : wr.cell? ⟨w.heap.size, 1, none⟩ = some (.int .i64 (need : Int)) := kp.cell 1
      have q2 : wr.cell? ⟨w.heap.size, 2, none⟩ = some (.int .i64 (hold : Int)) := kp.cell 2
      have hlen : (ptL p x L).length = k := by simp [ptL]; exact HNL.out.symm
      have hsh : ShAt wr (fun b => w1.heap.size ≤ b ∧ b < wr.heap.size) u11 (ptL p x L) := by
        have := hown.at_
        rwa [List.take_of_length_le (by omega)] at this
      have hbf := HB1.out.trans (hbl.mono (by omega))
      have hbo := HW.out.below hbf
      have HSH := Lib.hid hsh
      have HBF := Lib.hid hbf
      have HBO := Lib.hid hbo
      have HLE := Lib.hid hlen
      clear hsh hbf hbo hown hbl kp hlen
      go_wp2_with fail
      refine (h_Combine p need hold _ (ptL p x L) _ _ HBO.out HP.out n1 n2 n3 n4 HSH.out (fun b hb => hb.2) (by rw [HLE.out]; omega) (by rw [HLE.out]; omega) HPO.out).mono ?_
      rintro e w3 ⟨rfl, hb3⟩
      go_wp2_with fail
      go_ret2
      exact ⟨rfl, HBF.out.trans (hb3.mono HBF.out.size)⟩
end Go.Proofs.YtmneokkdkgflkaaDoor
