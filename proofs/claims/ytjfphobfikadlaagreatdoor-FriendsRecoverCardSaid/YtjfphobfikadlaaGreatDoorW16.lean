/- Contracts: a circle of friends is made. -/
import Derived.Test.YtjfphobfikadlaaGreatDoorW12
import Derived.Test.YtjfphobfikadlaaGreatDoorW15
import Derived.BigRegion
import Derived.Deep.CutRange
set_option linter.unusedVariables false
set_option linter.unusedSimpArgs false
namespace Go.Proofs.YtjfphobfikadlaaGreatDoor
open Go.RowKit Num

theorem f_Lock (s : ByteArray) (w : World) (hs : s.size < 4294967296) :
    Calls Tryz.prog 14 #[.string s] w fun e w' => e = .returned (.string (shaOf s)) ∧ Below w.heap.size w w' := by
  go_enter Tryz.func14, Tryz.ntmps14
  go_wp2_with fail
  refine (d_Sum s _ hs).mono ?_
  rintro e w1 ⟨rfl, hb1⟩
  go_wp2_with fail
  go_ret
  exact ⟨rfl, hb1⟩
/-- The marks of shares. -/
def marksL (L : List Sh) : List ByteArray := L.map fun s => markS s.1 s.2
theorem marksL_take (L : List Sh) (j : Nat) (h : j < L.length) : marksL (L.take (j + 1)) = marksL (L.take j) ++ [markS (shAt L j).1 (shAt L j).2] := by
  unfold marksL
  have e : shAt L j = L[j] := by unfold shAt; rw [List.getD_eq_getElem?_getD, List.getElem?_eq_getElem h]; rfl
  rw [List.take_succ_eq_append_getElem h, List.map_append, e]; rfl
/-- A circle as a value. -/
def circV (p need hold : Nat) (ep : Int) (vm : Value) (lock : ByteArray) : Value := .agg #[.int .i64 (p : Int), .int .i64 (need : Int), .int .i64 (hold : Int), .int .i64 ep, vm, .string lock]
def MakePost (p k hold : Nat) (key : ByteArray) (sec rnd : List Int) (w : World) (e : Ending) (w' : World) : Prop :=
  ∃ vm vl, e = .returned (.tuple #[circV p (k + 1) hold 0 vm (shaOf key), vl, .int .i64 0]) ∧ w'.ownsRow w.heap.size 9 1 vm hold ((marksL (dealL p k sec rnd hold)).map Value.string) ∧
    OwnSh w' w.heap.size vl (dealL p k sec rnd hold) ∧ Below w.heap.size w w'
theorem infoStr : (Tryz.prog.info? 9).map (fun i => (i.zero, i.size, i.bytes)) = some (some (.string ⟨#[]⟩), 1, 16) := by kernel_rfl
theorem circ_first {w3 wk : World} (h : Below w3.heap.size w3 wk) (cs : Array Value) : ∃ C : Nat, Value.pointer (some ⟨wk.heap.size, 0, none⟩) = .pointer (some ⟨C, 0, none⟩) ∧ w3.heap.size ≤ C ∧ Blk (wk.alloc (.cells cs 40)) C 40 cs ∧ Below w3.heap.size w3 (wk.alloc (.cells cs 40)) :=
  ⟨wk.heap.size, rfl, h.size, Blk.new wk _ _, h.alloc h.size _⟩
theorem circ_second {w3 wk : World} {x0 x1 x2 x3 x4 x5 : Value} (h : Below w3.heap.size w3 wk) (kc : Blk wk w3.heap.size 40 #[x0, x1, x2, x3, x4, x5]) (a b c d e f : Value) :
    ∃ C : Nat, Value.pointer (some ⟨w3.heap.size, 0, none⟩) = .pointer (some ⟨C, 0, none⟩) ∧ w3.heap.size ≤ C ∧
      Blk ((((((wk.setCell ⟨w3.heap.size, 0, none⟩ a).setCell ⟨w3.heap.size, 1, none⟩ b).setCell ⟨w3.heap.size, 2, none⟩ c).setCell ⟨w3.heap.size, 3, none⟩ d).setCell ⟨w3.heap.size, 4, none⟩ e).setCell ⟨w3.heap.size, 5, none⟩ f) C 40 #[a, b, c, d, e, f] ∧
      Below w3.heap.size w3 ((((((wk.setCell ⟨w3.heap.size, 0, none⟩ a).setCell ⟨w3.heap.size, 1, none⟩ b).setCell ⟨w3.heap.size, 2, none⟩ c).setCell ⟨w3.heap.size, 3, none⟩ d).setCell ⟨w3.heap.size, 4, none⟩ e).setCell ⟨w3.heap.size, 5, none⟩ f) := by
  refine ⟨w3.heap.size, rfl, Nat.le_refl _, ?_, (((((h.setCell (p := ⟨w3.heap.size, 0, none⟩) (Nat.le_refl _) _).setCell (p := ⟨w3.heap.size, 1, none⟩) (Nat.le_refl _) _).setCell (p := ⟨w3.heap.size, 2, none⟩) (Nat.le_refl _) _).setCell (p := ⟨w3.heap.size, 3, none⟩) (Nat.le_refl _) _).setCell (p := ⟨w3.heap.size, 4, none⟩) (Nat.le_refl _) _).setCell (p := ⟨w3.heap.size, 5, none⟩) (Nat.le_refl _) _⟩
  have k0 := (((((kc.set_ 0 a).set_ 1 b).set_ 2 c).set_ 3 d).set_ 4 e).set_ 5 f
  simpa using k0
theorem circ_set {wk : World} {C : Nat} {x0 x1 x2 x3 x4 x5 : Value} (kc : Blk wk C 40 #[x0, x1, x2, x3, x4, x5]) (a b c d e f : Value) :
    Blk ((((((wk.setCell ⟨C, 0, none⟩ a).setCell ⟨C, 1, none⟩ b).setCell ⟨C, 2, none⟩ c).setCell ⟨C, 3, none⟩ d).setCell ⟨C, 4, none⟩ e).setCell ⟨C, 5, none⟩ f) C 40 #[a, b, c, d, e, f] ∧
      wk.grownBy ((((((wk.setCell ⟨C, 0, none⟩ a).setCell ⟨C, 1, none⟩ b).setCell ⟨C, 2, none⟩ c).setCell ⟨C, 3, none⟩ d).setCell ⟨C, 4, none⟩ e).setCell ⟨C, 5, none⟩ f) (some C) := by
  have k0 := (((((kc.set_ 0 a).set_ 1 b).set_ 2 c).set_ 3 d).set_ 4 e).set_ 5 f
  refine ⟨by simpa using k0, ?_⟩
  exact only_setCell (only_setCell (only_setCell (only_setCell (only_setCell (only_setCell (World.grownBy.refl wk _) (p := ⟨C, 0, none⟩) (.inl rfl) _) (p := ⟨C, 1, none⟩) (.inl rfl) _) (p := ⟨C, 2, none⟩) (.inl rfl) _) (p := ⟨C, 3, none⟩) (.inl rfl) _) (p := ⟨C, 4, none⟩) (.inl rfl) _) (p := ⟨C, 5, none⟩) (.inl rfl) _
set_option maxRecDepth 100000 in
set_option maxHeartbeats 4000000 in
theorem f_Make (p k hold : Nat) (key : ByteArray) (sec rnd : List Int) (vr : Value) (w : World) (hw : BasesOk w) (hp : Prm p) (h2 : p ≤ 1073741824) (n2 : k + 1 ≤ hold) (n3 : hold ≤ 12) (n4 : hold < p) (hk : key.size = 16)
    (hpk : ∀ W, BasesOk W → Calls Tryz.prog 67 #[.int .i64 (p : Int), .string key] W (IntsPost2 sec W))
    (hr : IntsAt w (Old w) vr rnd) (fs : InF p sec) (fr : InF p rnd) (ls : sec.length ≤ 2048) (lr : rnd.length = sec.length * k) :
    Calls Tryz.prog 21 #[planV p (k + 1) hold, .string key, vr] w (MakePost p k hold key sec rnd w) := by
  obtain ⟨i0, hi, hz0, hz1, hz2⟩ := info_parts infoStr
  obtain ⟨Ar, nr, cr, rfl, hnr, hcr, hcellr⟩ := id hr
  have hvalid := fun W (hW : BasesOk W) => s_Valid p (k + 1) hold W hW hp h2 (by omega) n2 (by omega) n4
  have hlock := fun W => f_Lock key W (by omega)
  have hdeal := fun W (hW : BasesOk W) vs hs hr' => s_Deal p k hold sec rnd vs (.slice Ar nr cr) W hW hp h2 n2 (by omega) n4 hs hr' fs fr ls lr
  have hmark := fun (h : Int) u xs (W : World) hu hl hr1 h1 h2' => c_Mark h u xs (fun b => b < W.heap.size) W hu (fun b hb => hb) hl hr1 h1 h2'
  have epl : planV p (k + 1) hold = .agg #[.int .i64 (p : Int), .int .i64 ((k : Int) + 1), .int .i64 (hold : Int)] := rfl
  rw [epl] at hdeal ⊢
  rw [show ((k + 1 : Nat) : Int) = (k : Int) + 1 from rfl] at hvalid
  have HVA := Lib.hid hvalid
  have HLK := Lib.hid hlock
  have HDL := Lib.hid hdeal
  have HMK := Lib.hid hmark
  have HPK := Lib.hid hpk
  have HR := Lib.hid hr
  have hk' : (key.size : Int) = 16 := by omega
  have hba := ((Below.refl w.heap.size w).alloc (Nat.le_refl _) (.cells #[.int .i64 (p : Int), .int .i64 ((k : Int) + 1), .int .i64 (hold : Int)] 34))
  have kp : Blk (w.alloc (.cells #[.int .i64 (p : Int), .int .i64 ((k : Int) + 1), .int .i64 (hold : Int)] 34)) w.heap.size 34 #[.int .i64 (p : Int), .int .i64 ((k : Int) + 1), .int .i64 (hold : Int)] := Blk.new w _ _
  have HW := Lib.hid hw
  have kp2 : Blk ((w.alloc (.cells #[.int .i64 (p : Int), .int .i64 ((k : Int) + 1), .int .i64 (hold : Int)] 34)).alloc (.cells #[.int .i64 0, .int .i64 0, .int .i64 0, .int .i64 0, .slice none 0 0, .string ⟨#[]⟩] 40)) (w.heap.size + 1) 40 #[.int .i64 0, .int .i64 0, .int .i64 0, .int .i64 0, .slice none 0 0, .string ⟨#[]⟩] := by
    have := Blk.new (w.alloc (.cells #[.int .i64 (p : Int), .int .i64 ((k : Int) + 1), .int .i64 (hold : Int)] 34)) 40 #[.int .i64 0, .int .i64 0, .int .i64 0, .int .i64 0, .slice none 0 0, .string ⟨#[]⟩]
    simpa using this
  have kp1 := kp.alloc (.cells #[.int .i64 0, .int .i64 0, .int .i64 0, .int .i64 0, .slice none 0 0, .string ⟨#[]⟩] 40)
  have hba2 := hba.alloc (by simp) (.cells #[.int .i64 0, .int .i64 0, .int .i64 0, .int .i64 0, .slice none 0 0, .string ⟨#[]⟩] 40)
  have HB0 := Lib.hid hba2
  have KP0 := Lib.hid kp1
  have KR0 := Lib.hid kp2
  clear hvalid hlock hdeal hmark hpk hr hnr hcellr epl hw hba kp kp1 kp2 hba2
  go_enter Tryz.func21, Tryz.ntmps21
  go_wp2_with fail
  generalize (w.alloc (.cells #[.int .i64 (p : Int), .int .i64 ((k : Int) + 1), .int .i64 (hold : Int)] 34)).alloc (.cells #[.int .i64 0, .int .i64 0, .int .i64 0, .int .i64 0, .slice none 0 0, .string ⟨#[]⟩] 40) = w0 at *
  refine (HVA.out _ (HW.out.below HB0.out)).mono ?_
  rintro e w1 ⟨rfl, hb1⟩
  have kq := KP0.out.below hb1 KP0.out.lt
  have kr := KR0.out.below hb1 KR0.out.lt
  have hq := HB0.out.trans (hb1.mono HB0.out.size)
  have s2 : w1.cell? ⟨w.heap.size, 2, none⟩ = some (.int .i64 (hold : Int)) := kq.cell 2
  have s0 : w1.cell? ⟨w.heap.size, 0, none⟩ = some (.int .i64 (p : Int)) := kq.cell 0
  have hz1' := kr.lt
  have KP1 := Lib.hid kq
  have KR1 := Lib.hid kr
  have HB1 := Lib.hid hq
  clear kq kr hq hb1
  go_wp2_with fail
  refine (HPK.out _ (HW.out.below HB1.out)).mono ?_
  rintro e w2 ⟨vs, rfl, hvs, hb2⟩
  have kq := KP1.out.below hb2 KP1.out.lt
  have kr := KR1.out.below hb2 KR1.out.lt
  have hq := HB1.out.trans (hb2.mono HB1.out.size)
  have t0 : w2.cell? ⟨w.heap.size, 0, none⟩ = some (.int .i64 (p : Int)) := kq.cell 0
  have t1 : w2.cell? ⟨w.heap.size, 1, none⟩ = some (.int .i64 ((k : Int) + 1)) := kq.cell 1
  have t2 : w2.cell? ⟨w.heap.size, 2, none⟩ = some (.int .i64 (hold : Int)) := kq.cell 2
  have hdl := HDL.out w2 (HW.out.below hq) vs (hvs.mono fun b hb => hb.2) ((HR.out.below hq).mono fun b hb => Nat.lt_of_lt_of_le hb hq.size)
  have hz2' := kr.lt
  have KP2 := Lib.hid kq
  have KR2 := Lib.hid kr
  have HB2 := Lib.hid hq
  have HDL2 := Lib.hid hdl
  clear kq kr hq hb2 hdl hvs s0 s2
  go_wp2_with fail
  refine HDL2.out.mono ?_
  rintro e w3 ⟨vl, rfl, hvl, hb3⟩
  have kq := KP2.out.below hb3 KP2.out.lt
  have kr := KR2.out.below hb3 KR2.out.lt
  have hq := HB2.out.trans (hb3.mono HB2.out.size)
  have t0 : w3.cell? ⟨w.heap.size, 0, none⟩ = some (.int .i64 (p : Int)) := kq.cell 0
  have t1 : w3.cell? ⟨w.heap.size, 1, none⟩ = some (.int .i64 ((k : Int) + 1)) := kq.cell 1
  have t2 : w3.cell? ⟨w.heap.size, 2, none⟩ = some (.int .i64 (hold : Int)) := kq.cell 2
  have hvl' : OwnSh w3 w.heap.size vl (dealL p k sec rnd hold) := by
    obtain ⟨cells, h1, h2⟩ := hvl
    exact ⟨cells, own_mono h1 HB2.out.size, fun j hj => by obtain ⟨u, a1, a2, a3⟩ := h2 j hj; exact ⟨u, a1, a2, own_mono a3 HB2.out.size⟩⟩
  have hz3' := kr.lt
  have KP3 := Lib.hid kq
  have KR3 := Lib.hid kr
  have HB3 := Lib.hid hq
  have HVL := Lib.hid hvl'
  clear kq kr hq hb3 hvl hvl'
  have zq : w.heap.size < w3.heap.size := by omega
  have v0 : ∀ o : Obj, (w3.alloc o).drew.cell? ⟨w.heap.size, 0, none⟩ = some (.int .i64 (p : Int)) := fun o => (World.cell?_alloc_lt w3 o ⟨w.heap.size, 0, none⟩ zq).trans t0
  have v1 : ∀ o : Obj, (w3.alloc o).drew.cell? ⟨w.heap.size, 1, none⟩ = some (.int .i64 ((k : Int) + 1)) := fun o => (World.cell?_alloc_lt w3 o ⟨w.heap.size, 1, none⟩ zq).trans t1
  have v2 : ∀ o : Obj, (w3.alloc o).drew.cell? ⟨w.heap.size, 2, none⟩ = some (.int .i64 (hold : Int)) := fun o => (World.cell?_alloc_lt w3 o ⟨w.heap.size, 2, none⟩ zq).trans t2
  go_upto_region 13 with fail
  go_cut [12] from 52 to 55 (fun c wx => ∃ C : Nat, c = .pointer (some ⟨C, 0, none⟩) ∧ w3.heap.size ≤ C ∧ Blk wx C 40 #[.int .i64 (p : Int), .int .i64 ((k : Int) + 1), .int .i64 (hold : Int), .int .i64 0, .slice none 0 0, .string (shaOf key)] ∧ Below w3.heap.size w3 wx)
  case first =>
      go_region_law (first
        | (go_simp; go_at_call 14; ((with_reducible refine (HLK.out _).mono ?_); rintro e wk ⟨rfl, hbk⟩; have hbk3 : Below w3.heap.size w3 wk := (by first | exact ((Below.refl _ _).drew).trans hbk | exact (((Below.refl _ _).alloc (Nat.le_refl _) _).drew).trans (hbk.mono (by simp))); have u0 := (hbk3.cell (p := ⟨w.heap.size, 0, none⟩) zq).trans t0; have u1 := (hbk3.cell (p := ⟨w.heap.size, 1, none⟩) zq).trans t1; have u2 := (hbk3.cell (p := ⟨w.heap.size, 2, none⟩) zq).trans t2; have zk : w.heap.size < wk.heap.size := World.block_lt_of_cell? _ _ u0; have x0 : ∀ o : Obj, (wk.alloc o).cell? ⟨w.heap.size, 0, none⟩ = some (.int .i64 (p : Int)) := (fun o => (World.cell?_alloc_lt wk o ⟨w.heap.size, 0, none⟩ zk).trans u0); have x1 : ∀ o : Obj, (wk.alloc o).cell? ⟨w.heap.size, 1, none⟩ = some (.int .i64 ((k : Int) + 1)) := (fun o => (World.cell?_alloc_lt wk o ⟨w.heap.size, 1, none⟩ zk).trans u1); have x2 : ∀ o : Obj, (wk.alloc o).cell? ⟨w.heap.size, 2, none⟩ = some (.int .i64 (hold : Int)) := (fun o => (World.cell?_alloc_lt wk o ⟨w.heap.size, 2, none⟩ zk).trans u2); have HBK3 := Lib.hid hbk3; clear hbk3; try have kc : Blk wk w3.heap.size 40 #[.int .i64 0, .int .i64 0, .int .i64 0, .int .i64 0, .slice none 0 0, .string ⟨#[]⟩] := (Blk.new w3 40 #[.int .i64 0, .int .i64 0, .int .i64 0, .int .i64 0, .slice none 0 0, .string ⟨#[]⟩]).drew.below hbk (by simp); try have d0 : wk.cell? ⟨w3.heap.size, 0, none⟩ = some (.int .i64 0) := kc.cell 0; try have d1 : wk.cell? ⟨w3.heap.size, 1, none⟩ = some (.int .i64 0) := kc.cell 1; try have d2 : wk.cell? ⟨w3.heap.size, 2, none⟩ = some (.int .i64 0) := kc.cell 2; try have d3 : wk.cell? ⟨w3.heap.size, 3, none⟩ = some (.int .i64 0) := kc.cell 3; try have d4 : wk.cell? ⟨w3.heap.size, 4, none⟩ = some (.slice none 0 0) := kc.cell 4; try have d5 : wk.cell? ⟨w3.heap.size, 5, none⟩ = some (.string ⟨#[]⟩) := kc.cell 5; try have fz0 : wk.frozen? ⟨w3.heap.size, 0, none⟩ = false := kc.frozen 0; try have fz1 : wk.frozen? ⟨w3.heap.size, 1, none⟩ = false := kc.frozen 1; try have fz2 : wk.frozen? ⟨w3.heap.size, 2, none⟩ = false := kc.frozen 2; try have fz3 : wk.frozen? ⟨w3.heap.size, 3, none⟩ = false := kc.frozen 3; try have fz4 : wk.frozen? ⟨w3.heap.size, 4, none⟩ = false := kc.frozen 4; try have fz5 : wk.frozen? ⟨w3.heap.size, 5, none⟩ = false := kc.frozen 5; go_simp)))
      all_goals
        clear v0 v1 v2 x0 x1 x2
        try clear d0 d1 d2 d3 d4 d5 fz0 fz1 fz2 fz3 fz4 fz5
        go_wp2_with fail
        go_meet
        first
          | exact circ_first HBK3.out _
          | exact circ_second HBK3.out kc _ _ _ _ _ _
  case rest =>
    obtain ⟨C, rfl, hC, hkc, hbx⟩ := hcut
    clear t0 t1 t2 v0 v1 v2 HLK HDL HVA HPK KP0 KP1 KP2 KR0 KR1 KR2 HB0 HB1 HB2 HDL2
    have kr := KR3.out.below hbx KR3.out.lt
    have hsh := HVL.out.at_
    obtain ⟨A, n, c, rfl, hnl, hnc, hcc⟩ := hsh
    have hdl : (dealL p k sec rnd hold).length = hold := by simp [dealL]
    have hnh : n = hold := by omega
    subst hnh
    have hgood : ∀ j, j < n → (shAt (dealL p k sec rnd n) j).2.length = sec.length ∧ I64s (shAt (dealL p k sec rnd n) j).2 ∧ 1 ≤ (shAt (dealL p k sec rnd n) j).1 ∧ (shAt (dealL p k sec rnd n) j).1 ≤ 16 := fun j hj => by
      have hat : shAt (dealL p k sec rnd n) j = (((j + 1 : Nat) : Int), (List.range sec.length).map (dealV p k (j + 1) sec rnd)) := by
        unfold dealL shAt; rw [List.getD_eq_getElem?_getD, List.getElem?_map, List.getElem?_range hj]; rfl
      rw [hat]
      refine ⟨by simp, fun i hi => ?_, by show (1 : Int) ≤ ((j + 1 : Nat) : Int); omega, by show ((j + 1 : Nat) : Int) ≤ 16; omega⟩
      have hi' : i < sec.length := by simpa using hi
      have e : ((List.range sec.length).map (dealV p k (j + 1) sec rnd)).getD i 0 = dealV p k (j + 1) sec rnd i := by
        rw [List.getD_eq_getElem?_getD, List.getElem?_map, List.getElem?_range hi']; rfl
      show -9223372036854775808 ≤ ((List.range sec.length).map (dealV p k (j + 1) sec rnd)).getD i 0 ∧ ((List.range sec.length).map (dealV p k (j + 1) sec rnd)).getD i 0 < 9223372036854775808
      rw [e]
      have := evH_bd p ((j + 1 : Nat) : Int) (by omega) (sec.getD i 0 :: (rnd.drop (i * k)).take k)
      unfold dealV; omega
    have HGD := Lib.hid hgood
    have HCC := Lib.hid hcc
    have HDLN := Lib.hid hdl
    have HBX := Lib.hid hbx
    have KRX := Lib.hid kr
    have HKC := Lib.hid hkc
    have HLR := Lib.hid lr
    have hzx := hbx.size
    clear hgood hcc hdl hnl hbx kr hkc lr
    generalize hLL : dealL p k sec rnd n = L at *
    have HLL := Lib.hid hLL
    clear hLL
    go_wp2_with fail
    go_loopw [58] (fun t wr => ∃ (j : Nat) (vm : Value), j ≤ n ∧ t = .int .i64 (j : Int) ∧ Blk wr C 40 #[.int .i64 (p : Int), .int .i64 ((k : Int) + 1), .int .i64 (n : Int), .int .i64 0, vm, .string (shaOf key)] ∧
      wr.ownsRow w3.heap.size 9 1 vm j ((marksL (L.take j)).map Value.string) ∧ Below w3.heap.size w3 wr) (fun t _ => n - (intOf t).toNat)
    case atStart => exact ⟨0, .slice none 0 0, by omega, rfl, HKC.out, World.ownsRow_nil _ _ _ _, HBX.out⟩
    case round =>
      clear HKC HBX KRX
      obtain ⟨j, vm, hj, rfl, hkc, hown, hbl⟩ := hrel
      have hzr := hbl.size
      have zC := hkc.lt
      by_cases hlt : j < n
      · obtain ⟨b, off, rfl, hSb, hcell⟩ := HCC.out (by omega)
        obtain ⟨u, m0, m1, hu⟩ := hcell j hlt
        obtain ⟨Au, nu, cu, rfl, f1, f2, f3⟩ := id hu
        have hgj := HGD.out j hlt
        have hst := marksL_take L j (by rw [HDLN.out]; exact hlt)
        obtain ⟨sh, hsh⟩ : ∃ sh, shAt L j = sh := ⟨_, rfl⟩
        clear f1 f2 f3
        rw [hsh] at m0 hu hgj hst
        obtain ⟨h, xs⟩ := sh
        simp only at m0 hu hgj hst
        have c0 := (hbl.cell (p := ⟨b, off + j * 2, none⟩) hSb.2).trans m0
        have c1 := (hbl.cell (p := ⟨b, off + j * 2 + 1, none⟩) hSb.2).trans m1
        have qj : (j : Int) < (n : Int) := by omega
        have hq0 : Below wr.heap.size wr (wr.alloc (.cells #[.int .i64 h, .slice Au nu cu] 49)) := (Below.refl _ _).alloc (Nat.le_refl _) _
        have g0 : (wr.alloc (.cells #[.int .i64 h, .slice Au nu cu] 49)).cell? ⟨wr.heap.size, 0, none⟩ = some (.int .i64 h) := by rw [World.cell?_alloc_new]; rfl
        have g1 : (wr.alloc (.cells #[.int .i64 h, .slice Au nu cu] 49)).cell? ⟨wr.heap.size, 1, none⟩ = some (.slice Au nu cu) := by rw [World.cell?_alloc_new]; rfl
        have hwz : wr.heap.size < (wr.alloc (.cells #[.int .i64 h, .slice Au nu cu] 49)).heap.size := by simp
        have hvmC : vm.ownBlock ≠ some C := own_blk_ne hown hkc (by decide)
        have HQ0 := Lib.hid hq0
        have HKC := Lib.hid hkc
        have HOWN := Lib.hid hown
        have HBL := Lib.hid hbl
        have HST := Lib.hid hst
        have HU := Lib.hid hu
        have HGJ := Lib.hid hgj
        have HSH := Lib.hid hsh
        clear hq0 hkc hown hbl hst hu hgj hsh hcell m0 m1
        go_upto_region 17 with fail
        generalize (wr.alloc (.cells #[.int .i64 h, .slice Au nu cu] 49)) = W1 at *
        have hw3' : w3.heap.size ≤ W1.heap.size := by omega
        have zC1 : C < W1.heap.size := by omega
        have cv : W1.cell? ⟨C, 4, none⟩ = some vm := (HQ0.out.cell (p := ⟨C, 4, none⟩) zC).trans (HKC.out.cell 4)
        have fv : W1.frozen? ⟨C, 4, none⟩ = false := (HQ0.out.frozen (p := ⟨C, 4, none⟩) zC).trans (HKC.out.frozen 4)
        have how1 := HOWN.out.kept (only_of_below HQ0.out none) (by cases vm.ownBlock <;> simp)
        have mk : ∀ W, Below W1.heap.size W1 W → W.cell? ⟨wr.heap.size, 0, none⟩ = some (.int .i64 h) ∧ W.cell? ⟨wr.heap.size, 1, none⟩ = some (.slice Au nu cu) ∧ W.cell? ⟨C, 4, none⟩ = some vm ∧ W.frozen? ⟨C, 4, none⟩ = false ∧ W.ownsRow w3.heap.size 9 1 vm j ((marksL (L.take j)).map Value.string) := fun W hW =>
          ⟨(hW.cell (p := ⟨wr.heap.size, 0, none⟩) hwz).trans g0, (hW.cell (p := ⟨wr.heap.size, 1, none⟩) hwz).trans g1, (hW.cell (p := ⟨C, 4, none⟩) zC1).trans cv, (hW.frozen (p := ⟨C, 4, none⟩) zC1).trans fv, how1.kept (only_of_below hW none) (by cases vm.ownBlock <;> simp)⟩
        have hmk : ∀ W, Below W1.heap.size W1 W → Calls Tryz.prog 53 #[.agg #[.int .i64 h, .slice Au nu cu]] W (MarkPost h xs W) := fun W hW =>
          HMK.out h _ xs W ((HU.out.keep fun b hb => (hW.block b (by have := hb.2; omega)).trans ((HQ0.out.block b (by have := hb.2; omega)).trans (HBL.out.block b hb.2))).mono fun b hb => by have := hb.2; have := hW.size; omega) (by have := HGJ.out.1; omega) HGJ.out.2.1 (by have := HGJ.out.2.2.1; omega) (by have := HGJ.out.2.2.2; omega)
        obtain ⟨mm, hmm⟩ : ∃ mm, markS h xs = mm := ⟨_, rfl⟩
        unfold MarkPost at hmk
        rw [hmm] at hmk
        have HST2 : Hid (marksL (L.take (j + 1)) = marksL (L.take j) ++ [mm]) := Lib.hid (by rw [HST.out, hmm])
        have MK := Lib.hid mk
        have HMM := Lib.hid hmk
        have kk0 : ∀ o : Obj, (W1.alloc o).drew.cell? ⟨wr.heap.size, 0, none⟩ = some (.int .i64 h) := fun o => (World.cell?_alloc_lt W1 o ⟨wr.heap.size, 0, none⟩ hwz).trans g0
        clear mk hmk hmm how1 kk0
        go_region_law (first
          | (refine step_append_lies _ (by rfl) _ _ _ (by rfl) w3.heap.size 9 i0 _ 1 16 Tryz.underlying38 hi hz0 hz1 hz2 rfl (by omega) vm j _ (by rfl) (E4.out.alloc _) ⟨wk.heap.size, 0, none⟩ 1 1 [.string mm] (by rfl) (by rfl) (cell_one_new _ _ _) (by intro u hu; simp at hu; subst hu; rfl) (by omega) (by simp only [maxLen]; omega) (by omega) (by simp; omega) (wk.heap.size + 1) (by simp) ?_; intro gg cap4 w4 hown4 hgrow4 hat4 hlt4; have c4 : w4.cell? ⟨C, 4, none⟩ = some vm := (hgrow4.cell_far _ (by simp; omega) (Ne.symm hvmC)).trans (K0.out _); have f4 : w4.frozen? ⟨C, 4, none⟩ = false := (hgrow4.frozen_far _ (by simp; omega) (Ne.symm hvmC)).trans (K1.out _))
          | (go_simp; go_at_call 53; ((with_reducible refine (HMM.out _ ((Below.refl _ _).drew)).mono ?_); rintro e wk ⟨rfl, hbk⟩; have hbk' : Below W1.heap.size W1 wk := ((Below.refl W1.heap.size W1).drew).trans hbk; have hskk := hbk'.size; obtain ⟨e0, e1, e2, e3, e4⟩ := MK.out wk hbk'; have zCk : C < wk.heap.size := (by omega); have k0 : ∀ o : Obj, (wk.alloc o).cell? ⟨C, 4, none⟩ = some vm := (fun o => (World.cell?_alloc_lt wk o ⟨C, 4, none⟩ zCk).trans e2); have k1 : ∀ o : Obj, (wk.alloc o).frozen? ⟨C, 4, none⟩ = false := (fun o => (((Below.refl wk.heap.size wk).alloc (Nat.le_refl _) o).frozen (p := ⟨C, 4, none⟩) zCk).trans e3); have K0 := Lib.hid k0; have K1 := Lib.hid k1; have E4 := Lib.hid e4; have HBK := Lib.hid hbk'; clear e4 hbk hbk'; go_simp)))
        all_goals
          have hg1 : wk.grownBy w4 vm.ownBlock := grown_past hgrow4
          have hgT : wr.grownBy w4 vm.ownBlock := gb_tr (gb_tr (only_of_below HQ0.out _) (only_of_below HBK.out _)) hg1
          have hul : ∀ b, vm.ownBlock = some b → w3.heap.size ≤ b := fun b hb => (HOWN.out.lt b hb).1
          have hb4 := HBL.out.grown hgT (by omega) hul
          have hkc4 := HKC.out.grown hgT (Ne.symm hvmC)
          have hne4 := own_blk_ne hown4 hkc4 (by decide)
          have HB4 := Lib.hid hb4
          have HK4 := Lib.hid hkc4
          have HO4 : Hid (w4.ownsRow w3.heap.size 9 1 (.slice (some ⟨gg, 0, none⟩) (j + 1) cap4) (j + 1) ((marksL (L.take (j + 1))).map Value.string)) := Lib.hid (by rw [HST2.out, List.map_append]; exact hown4)
          clear hgrow4 hown4 hg1 hgT hul hb4 hkc4 hat4
          go_wp2_with fail
          go_roundw
          case measure => simp [intOf]; omega
          case rel =>
            exact ⟨j + 1, _, by omega, by go_num, HK4.out.set_ 4 _, HO4.out.kept (only_setCell (World.grownBy.refl w4 _) (p := ⟨C, 4, none⟩) (.inl rfl) _) (.inr hne4), HB4.out.setCell (p := ⟨C, 4, none⟩) hC _⟩
      · have hjn : j = n := by omega
        subst hjn
        have hkr := KR3.out.below hbl KR3.out.lt
        have q0 : wr.cell? ⟨C, 0, none⟩ = some (.int .i64 (p : Int)) := hkc.cell 0
        have q1 : wr.cell? ⟨C, 1, none⟩ = some (.int .i64 ((k : Int) + 1)) := hkc.cell 1
        have q2 : wr.cell? ⟨C, 2, none⟩ = some (.int .i64 (j : Int)) := hkc.cell 2
        have q3 : wr.cell? ⟨C, 3, none⟩ = some (.int .i64 0) := hkc.cell 3
        have q4 : wr.cell? ⟨C, 4, none⟩ = some vm := hkc.cell 4
        have q5 : wr.cell? ⟨C, 5, none⟩ = some (.string (shaOf key)) := hkc.cell 5
        have r0 : wr.cell? ⟨w.heap.size + 1, 0, none⟩ = some (.int .i64 0) := hkr.cell 0
        have r1 : wr.cell? ⟨w.heap.size + 1, 1, none⟩ = some (.int .i64 0) := hkr.cell 1
        have r2 : wr.cell? ⟨w.heap.size + 1, 2, none⟩ = some (.int .i64 0) := hkr.cell 2
        have r3 : wr.cell? ⟨w.heap.size + 1, 3, none⟩ = some (.int .i64 0) := hkr.cell 3
        have r4 : wr.cell? ⟨w.heap.size + 1, 4, none⟩ = some (.slice none 0 0) := hkr.cell 4
        have r5 : wr.cell? ⟨w.heap.size + 1, 5, none⟩ = some (.string ⟨#[]⟩) := hkr.cell 5
        have z0 := hkr.frozen 0
        have z1 := hkr.frozen 1
        have z2 := hkr.frozen 2
        have z3 := hkr.frozen 3
        have z4 := hkr.frozen 4
        have z5 := hkr.frozen 5
        have hvl := HVL.out.below hbl
        have hneR := own_blk_ne hown hkr (by decide)
        have HBL := Lib.hid (HB3.out.trans (hbl.mono HB3.out.size))
        have HOWN := Lib.hid hown
        have HVL2 := Lib.hid hvl
        have HKR := Lib.hid hkr
        have h1v := own_one hown
        rcases id hown.2 with ⟨rfl, h0'⟩ | ⟨gm, capm, curm, rfl, _⟩
        · omega
        clear hbl hown hvl hkr hkc
        go_wp2_with fail
        obtain ⟨hkf, hgf⟩ := circ_set HKR.out (.int .i64 (p : Int)) (.int .i64 ((k : Int) + 1)) (.int .i64 (j : Int)) (.int .i64 0) (.slice (some ⟨gm, 0, none⟩) j capm) (.string (shaOf key))
        clear q0 q1 q2 q3 q4 q5 r0 r1 r2 r3 r4 r5 z0 z1 z2 z3 z4 z5
        generalize ((((((wr.setCell ⟨w.heap.size + 1, 0, none⟩ (.int .i64 (p : Int))).setCell ⟨w.heap.size + 1, 1, none⟩ (.int .i64 ((k : Int) + 1))).setCell ⟨w.heap.size + 1, 2, none⟩ (.int .i64 (j : Int))).setCell ⟨w.heap.size + 1, 3, none⟩ (.int .i64 0)).setCell ⟨w.heap.size + 1, 4, none⟩ (.slice (some ⟨gm, 0, none⟩) j capm)).setCell ⟨w.heap.size + 1, 5, none⟩ (.string (shaOf key))) = wf at *
        have q0 : wf.cell? ⟨w.heap.size + 1, 0, none⟩ = some (.int .i64 (p : Int)) := hkf.cell 0
        have q1 : wf.cell? ⟨w.heap.size + 1, 1, none⟩ = some (.int .i64 ((k : Int) + 1)) := hkf.cell 1
        have q2 : wf.cell? ⟨w.heap.size + 1, 2, none⟩ = some (.int .i64 (j : Int)) := hkf.cell 2
        have q3 : wf.cell? ⟨w.heap.size + 1, 3, none⟩ = some (.int .i64 0) := hkf.cell 3
        have q4 : wf.cell? ⟨w.heap.size + 1, 4, none⟩ = some (.slice (some ⟨gm, 0, none⟩) j capm) := hkf.cell 4
        have q5 : wf.cell? ⟨w.heap.size + 1, 5, none⟩ = some (.string (shaOf key)) := hkf.cell 5
        have hof := HOWN.out.kept hgf (.inr hneR)
        have hvf := HVL2.out.kept hgf (by
          rcases hv : (Value.slice A j c).ownBlock with _ | g
          · exact .inl rfl
          · right; obtain ⟨cells, hr1, _⟩ := HVL2.out; rw [← hv]; exact own_blk_ne hr1 HKR.out (by decide)) (fun u n xs hu => by
          rcases hv : u.ownBlock with _ | g
          · exact .inl rfl
          · right; rw [← hv]; exact own_blk_ne hu HKR.out (by decide))
        have hbf := HBL.out.grown hgf HBL.out.size (fun g hg => by injection hg with hg; omega)
        refine bodyPost_ret (v := .tuple #[circV p (k + 1) j 0 (.slice (some ⟨gm, 0, none⟩) j capm) (shaOf key), .slice A j c, .int .i64 0]) (by simp [circV, results, Tryz.results21, go_sem, q0, q1, q2, q3, q4, q5]) rfl ⟨_, _, rfl, ?_, ?_, hbf⟩
        · rw [HLL.out]
          rw [List.take_of_length_le (by rw [HDLN.out]; exact Nat.le_refl _)] at hof
          exact own_mono hof (by omega)
        · rw [HLL.out]; exact hvf
end Go.Proofs.YtjfphobfikadlaaGreatDoor
