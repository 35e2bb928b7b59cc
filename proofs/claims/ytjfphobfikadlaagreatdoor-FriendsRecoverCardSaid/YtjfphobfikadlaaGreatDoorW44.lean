/- Plain facts on shares that are values of polynomials. Plain facts on the circle of the sanity check of the chapter. No program stands in it but its names. The sanity check of the chapter of friends. The walk of a drawn region: friends are made out of the dice. -/
import Derived.Test.YtjfphobfikadlaaGreatDoorW11
import Derived.Test.YtjfphobfikadlaaGreatDoorW21
import Derived.Test.YtjfphobfikadlaaGreatDoorW27
import Derived.BigRegion
import Derived.Deep.CutRange
import Derived.Test.YtjfphobfikadlaaGreatDoorW26
import Derived.Test.YtjfphobfikadlaaGreatDoorW23
set_option linter.unusedVariables false
set_option linter.unusedSimpArgs false
namespace Go.Proofs.YtjfphobfikadlaaGreatDoor
open Go.RowKit Num

theorem deal_atM (p k : Nat) (sec rnd : List Int) (n j : Nat) (h : j < n) : shAt (dealL p k sec rnd n) j = (((j + 1 : Nat) : Int), (List.range sec.length).map (dealV p k (j + 1) sec rnd)) := by
  unfold dealL shAt
  rw [List.getD_eq_getElem?_getD, List.getElem?_map, List.getElem?_range h]; rfl
theorem dealt_lenM (p k : Nat) (sec rnd : List Int) (n : Nat) : (dealL p k sec rnd n).length = n := by simp [dealL]
/-- The polynomial of an element. -/
def polDM (k : Nat) (sec rnd : List Int) (i : Nat) : List Int := sec.getD i 0 :: (rnd.drop (i * k)).take k
/-- Shares that are values of polynomials. -/
structure FromDealM (p hold m : Nat) (P : Nat → List Int) (L : List Sh) : Prop where
  good : GoodSh p hold m L
  val : ∀ i k, i < m → k < L.length → (shAt L k).2.getD i 0 = evH p (shAt L k).1 (P i)
theorem FromDealM.deal {p k hold : Nat} {sec rnd : List Int} (hp : 1 ≤ p) : FromDealM p hold sec.length (polDM k sec rnd) (dealL p k sec rnd hold) where
  good := {
    holder := fun j hj => by rw [dealt_lenM] at hj; rw [deal_atM _ _ _ _ _ _ hj]; show (1 : Int) ≤ ((j + 1 : Nat) : Int) ∧ _; constructor <;> omega
    once := fun i j hi hj hne => by rw [dealt_lenM] at hi hj; rw [deal_atM _ _ _ _ _ _ hi, deal_atM _ _ _ _ _ _ hj]; show ((i + 1 : Nat) : Int) ≠ ((j + 1 : Nat) : Int); omega
    len := fun j hj => by rw [dealt_lenM] at hj; rw [deal_atM _ _ _ _ _ _ hj]; simp
    inF := fun j hj => by
      rw [dealt_lenM] at hj
      rw [deal_atM _ _ _ _ _ _ hj]
      intro i hi
      have hi' : i < sec.length := by simpa using hi
      have e : ((List.range sec.length).map (dealV p k (j + 1) sec rnd)).getD i 0 = dealV p k (j + 1) sec rnd i := by rw [List.getD_eq_getElem?_getD, List.getElem?_map, List.getElem?_range hi']; rfl
      rw [e]
      exact evH_bd p _ hp _ }
  val := fun i j hi hj => by
    rw [dealt_lenM] at hj
    rw [deal_atM _ _ _ _ _ _ hj]
    show ((List.range sec.length).map (dealV p k (j + 1) sec rnd)).getD i 0 = _
    rw [List.getD_eq_getElem?_getD, List.getElem?_map, List.getElem?_range hi]; rfl
theorem FromDealM.some {p hold m : Nat} {P : Nat → List Int} {L L' : List Sh} (h : FromDealM p hold m P L) (hs : Some_ L L') : FromDealM p hold m P L' := by
  obtain ⟨σ, h1, h2⟩ := hs
  refine ⟨⟨fun k hk => ?_, fun i j hi hj hne => ?_, fun k hk => ?_, fun k hk => ?_⟩, fun i k hi hk => ?_⟩
  · rw [(h1 k hk).2]; exact h.good.holder _ (h1 k hk).1
  · rw [(h1 i hi).2, (h1 j hj).2]; exact h.good.once _ _ (h1 i hi).1 (h1 j hj).1 (h2 i j hi hj hne)
  · rw [(h1 k hk).2]; exact h.good.len _ (h1 k hk).1
  · rw [(h1 k hk).2]; exact h.good.inF _ (h1 k hk).1
  · rw [(h1 k hk).2]; exact h.val i _ hi (h1 k hk).1
/-- What the polynomials give at 0 is the secret. -/
theorem sec_backM {p k m : Nat} {sec rnd : List Int} (hp : 1 ≤ p) (hs : InF p sec) (hm : sec.length = m) : ((List.range m).map fun i => ev (polDM k sec rnd i) 0 % (p : Int)) = sec := by
  apply List.ext_getElem
  · simpa using hm.symm
  · intro i h1 h2
    have hi' : i < m := by simpa using h1
    rw [List.getElem_map, List.getElem_range]
    show (sec.getD i 0 + 0 * _) % (p : Int) = _
    have := hs i (by omega)
    rw [Int.zero_mul, Int.add_zero, Int.emod_eq_of_lt this.1 this.2, List.getD_eq_getElem?_getD, List.getElem?_eq_getElem h2]; rfl
end Go.Proofs.YtjfphobfikadlaaGreatDoor
namespace Go.Proofs.YtjfphobfikadlaaGreatDoor
open Go.RowKit Num

theorem some_drop (L : List Sh) : Some_ L (L.drop 1) := by
  refine ⟨fun k => k + 1, fun k hk => ?_, fun i j _ _ h e => h (by have e' : i + 1 = j + 1 := e; omega)⟩
  have hk' : k < L.length - 1 := by simpa using hk
  refine ⟨by show k + 1 < L.length; omega, ?_⟩
  show shAt (L.drop 1) k = shAt L (k + 1)
  unfold shAt
  rw [List.getD_eq_getElem?_getD, List.getElem?_drop, Nat.add_comm 1 k, ← List.getD_eq_getElem?_getD]
theorem some_take (L : List Sh) : Some_ L (L.take 1) := by
  refine ⟨fun k => k, fun k hk => ?_, fun i j _ _ h e => h e⟩
  have hk' : k < 1 ∧ k < L.length := by rw [List.length_take] at hk; omega
  exact ⟨hk'.2, shAt_take L 1 k hk'.1⟩
/-- Some shares of dealt ones fit their marks. -/
theorem fit_some {p k hold : Nat} {sec rnd : List Int} {L' : List Sh} (hp : 1 ≤ p) (hp2 : p ≤ 1073741824) (hm : sec.length ≤ 1000) (hs : Some_ (dealL p k sec rnd hold) L') : Fit (marksL (dealL p k sec rnd hold)) L' := by
  obtain ⟨σ, h1, h2⟩ := hs
  have hg := (FromDealM.deal (k := k) (hold := hold) (sec := sec) (rnd := rnd) hp).good
  have hd := dealt_lenM p k sec rnd hold
  refine ⟨fun j hj => ?_, fun j hj => ?_, fun j hj => ?_⟩
  · have hsj := h1 j hj
    rw [hsj.2]
    have hlt : σ j < hold := by rw [← hd]; exact hsj.1
    refine ⟨σ j, by rw [deal_atM _ _ _ _ _ _ hlt]; rfl, by unfold marksL; rw [List.length_map, hd]; exact hlt, ?_⟩
    unfold marksL shAt
    rw [List.getD_eq_getElem?_getD, List.getElem?_map, List.getD_eq_getElem?_getD (l := dealL p k sec rnd hold), List.getElem?_eq_getElem hsj.1]; rfl
  · rw [(h1 j hj).2, hg.len _ (h1 j hj).1]; omega
  · rw [(h1 j hj).2]
    intro i hi
    have := hg.inF _ (h1 j hj).1 i hi
    omega
/-- So many of them as are needed give the secret. -/
theorem comb_some {p k hold : Nat} {sec rnd : List Int} {L' : List Sh} (hp : Prm p) (hh : hold < p) (fs : InF p sec) (hs : Some_ (dealL p k sec rnd hold) L') (hn : k + 1 ≤ L'.length) : combL p (k + 1) L' sec.length = sec := by
  have h1 := hp.1
  have hf := (FromDealM.deal (k := k) (hold := hold) (sec := sec) (rnd := rnd) (show 1 ≤ p by omega)).some hs
  rw [comb_back hp hh hf.good (by omega) hn (P := polDM k sec rnd) (fun i hi => by unfold polDM; simp [List.length_take]; omega) (fun i j hi hj => by rw [hf.val i j hi hj, evH_eq _ _ (by omega)])]
  exact sec_backM (p := p) (k := k) (sec := sec) (rnd := rnd) (by omega) fs rfl
/-- The key of the sanity check. -/
def keyA : ByteArray := ⟨#[48, 49, 50, 51, 52, 53, 54, 55, 56, 57, 97, 98, 99, 100, 101, 102]⟩
def secA : List Int := pack3 keyA.data.toList
def rndA : List Int := fillL 500000003 3 6
def LA : List Sh := dealL 500000003 1 secA rndA 3
theorem keyA_size : keyA.size = 16 := rfl
theorem secA_len : secA.length = 6 := by unfold secA; rw [pack3_len]; rfl
theorem pack3_in (l : List UInt8) (p : Nat) (h : 16777216 ≤ p) : InF p (pack3 l) := by
  intro k hk
  rw [pack3_len] at hk
  rw [pack3_get l k hk]
  have h1 := pk3_lt l k
  have h2 : 256 ^ min 3 (l.length - 3 * k) ≤ 256 ^ 3 := Nat.pow_le_pow_right (by decide) (by omega)
  have h3 : (256 : Nat) ^ 3 = 16777216 := by decide
  omega
theorem secA_in : InF 500000003 secA := pack3_in _ _ (by decide)
theorem rndA_in : InF 500000003 rndA := fillL_in _ _ _ (by decide)
theorem rndA_len : rndA.length = 6 := fillL_len _ _ _
theorem prmA : Prm 500000003 := safe_prm (by unfold Num.Safe; decide)
theorem LA_len : LA.length = 3 := dealt_lenM _ _ _ _ _
theorem marksA_len : (marksL LA).length = 3 := by unfold marksL; rw [List.length_map, LA_len]
theorem marks_32 (L : List Sh) : ∀ k, k < (marksL L).length → ((marksL L).getD k ⟨#[]⟩).size = 32 := fun k hk => by
  have hk' : k < L.length := by simpa [marksL] using hk
  have e : (marksL L).getD k ⟨#[]⟩ = markS (L[k]).1 (L[k]).2 := by
    unfold marksL; rw [List.getD_eq_getElem?_getD, List.getElem?_map, List.getElem?_eq_getElem hk']; rfl
  rw [e]; exact markS_size _ _
end Go.Proofs.YtjfphobfikadlaaGreatDoor
namespace Go.Proofs.YtjfphobfikadlaaGreatDoor
open Go.RowKit Num

theorem ShAt.drop1 {w : World} {S : Nat → Prop} {A : Option Addr} {n c : Nat} {L : List Sh} (h : ShAt w S (.slice A n c) L) (h1 : 1 ≤ n) (h2 : 2 ≤ c) : ShAt w S (.slice (subA A c 1 2) (n - 1) (c - 1)) (L.drop 1) := by
  obtain ⟨A', n', c', hv, e1, e2, hc⟩ := h
  injection hv with v1 v2 v3
  subst v1 v2 v3
  obtain ⟨b, off, rfl, hS, hcell⟩ := hc (by omega)
  have hs : subA (some ⟨b, off, none⟩) c 1 2 = some ⟨b, off + 2, none⟩ := by
    unfold subA; rw [if_neg (by omega)]
    show some ((⟨b, off, none⟩ : Addr).add (1 * 2)) = _
    unfold Addr.add; split <;> simp_all
  rw [hs]
  refine ⟨_, _, _, rfl, by rw [List.length_drop]; omega, by omega, fun hn => ⟨b, off + 2, rfl, hS, fun k hk => ?_⟩⟩
  have he : shAt (L.drop 1) k = shAt L (k + 1) := by
    unfold shAt
    rw [List.getD_eq_getElem?_getD, List.getElem?_drop, Nat.add_comm 1 k, ← List.getD_eq_getElem?_getD]
  obtain ⟨u, m0, m1, hu⟩ := hcell (k + 1) (by omega)
  rw [he]
  exact ⟨u, by rw [show off + 2 + k * 2 = off + (k + 1) * 2 by omega]; exact m0, by rw [show off + 2 + k * 2 + 1 = off + (k + 1) * 2 + 1 by omega]; exact m1, hu⟩
/-- The circle and its shares lie ready. -/
def AwQ (w1 : World) (c l e : Value) (wx : World) : Prop := ∃ (C : Nat) (vm : Value), c = .pointer (some ⟨C, 0, none⟩) ∧ e = .int .i64 0 ∧ w1.heap.size ≤ C ∧ Blk wx C 40 #[.int .i64 500000003, .int .i64 2, .int .i64 3, .int .i64 0, vm, .string (shaOf keyA)] ∧
    StrsAt wx (fun z => z < wx.heap.size) vm (marksL LA) ∧ ShAt wx (fun z => z < wx.heap.size) l LA ∧ Below w1.heap.size w1 wx
theorem aw_first {w1 wk : World} {S : Nat → Prop} {vm vl : Value} (h : Below w1.heap.size w1 wk) (hm : StrsAt wk S vm (marksL LA)) (hl : ShAt wk S vl LA) (hS : ∀ z, S z → z < wk.heap.size) :
    AwQ w1 (.pointer (some ⟨wk.heap.size, 0, none⟩)) vl (.int .i64 0) (wk.alloc (.cells #[.int .i64 500000003, .int .i64 2, .int .i64 3, .int .i64 0, vm, .string (shaOf keyA)] 40)) :=
  ⟨wk.heap.size, vm, rfl, rfl, h.size, Blk.new wk _ _, (hm.keep fun z hz => Below.heap_alloc _ _ _ (hS z hz)).mono (fun z hz => by have := hS z hz; simp; omega), (hl.keep fun z hz => Below.heap_alloc _ _ _ (hS z hz)).mono (fun z hz => by have := hS z hz; simp; omega), h.alloc h.size _⟩
theorem aw_second {w1 wk : World} {C : Nat} {S : Nat → Prop} {vm vl : Value} {x0 x1 x2 x3 x4 x5 : Value} (h : Below w1.heap.size w1 wk) (kc : Blk wk C 40 #[x0, x1, x2, x3, x4, x5]) (hC : w1.heap.size ≤ C) (hm : StrsAt wk S vm (marksL LA)) (hl : ShAt wk S vl LA) (hS : ∀ z, S z → z < wk.heap.size ∧ z ≠ C) :
    AwQ w1 (.pointer (some ⟨C, 0, none⟩)) vl (.int .i64 0) ((((((wk.setCell ⟨C, 0, none⟩ (.int .i64 500000003)).setCell ⟨C, 1, none⟩ (.int .i64 2)).setCell ⟨C, 2, none⟩ (.int .i64 3)).setCell ⟨C, 3, none⟩ (.int .i64 0)).setCell ⟨C, 4, none⟩ vm).setCell ⟨C, 5, none⟩ (.string (shaOf keyA))) := by
  obtain ⟨h1, h2⟩ := circ_set kc (.int .i64 500000003) (.int .i64 2) (.int .i64 3) (.int .i64 0) vm (.string (shaOf keyA))
  generalize ((((((wk.setCell ⟨C, 0, none⟩ (.int .i64 500000003)).setCell ⟨C, 1, none⟩ (.int .i64 2)).setCell ⟨C, 2, none⟩ (.int .i64 3)).setCell ⟨C, 3, none⟩ (.int .i64 0)).setCell ⟨C, 4, none⟩ vm).setCell ⟨C, 5, none⟩ (.string (shaOf keyA))) = wf at *
  have hk : ∀ z, S z → wf.heap[z]? = wk.heap[z]? := fun z hz => h2.block z (hS z hz).1 (fun e => by injection e with e; exact (hS z hz).2 e)
  have hz := h2.size
  exact ⟨C, vm, rfl, rfl, hC, h1, (hm.keep hk).mono (fun z hz' => by have := (hS z hz').1; omega), (hl.keep hk).mono (fun z hz' => by have := (hS z hz').1; omega), h.grown h2 h.size (fun g hg => by injection hg with hg; omega)⟩
set_option maxRecDepth 100000 in
set_option maxHeartbeats 8000000 in
theorem f_awake (w : World) (hw : BasesOk w) :
    Calls Tryz.prog 10 #[] w (BoolBelow true w) := by
  have hnd : ∀ W, Calls Tryz.prog 24 #[.agg #[.int .i64 500000003, .int .i64 2, .int .i64 3]] W fun e w' => e = .returned (.int .i64 6) ∧ Below W.heap.size W w' := fun W => by
    have h := f_Needs 500000003 2 3 W (by decide) (by decide) (by decide)
    rw [show cntP 500000003 * (2 - 1) = 6 from by rw [cnt3 (by decide)]] at h
    exact h
  have hfl : ∀ W, Calls Tryz.prog 22 #[.int .i64 500000003, .int .i64 3, .int .i64 6] W (IntsPost rndA W) := fun W => by
    have h := y_Fill 500000003 6 3 W (by decide) (by decide) (by decide)
    rw [show (3 % ((500000003 : Nat) : Int)).toNat = 3 from by decide] at h
    exact h
  have s0 : (w.alloc (.cells #[.int .i64 500000003, .int .i64 2, .int .i64 3] 34)).cell? ⟨w.heap.size, 0, none⟩ = some (.int .i64 500000003) := by rw [World.cell?_alloc_new]; rfl
  have s1 : (w.alloc (.cells #[.int .i64 500000003, .int .i64 2, .int .i64 3] 34)).cell? ⟨w.heap.size, 1, none⟩ = some (.int .i64 2) := by rw [World.cell?_alloc_new]; rfl
  have s2 : (w.alloc (.cells #[.int .i64 500000003, .int .i64 2, .int .i64 3] 34)).cell? ⟨w.heap.size, 2, none⟩ = some (.int .i64 3) := by rw [World.cell?_alloc_new]; rfl
  have hba := (Below.refl w.heap.size w).alloc (Nat.le_refl _) (.cells #[.int .i64 500000003, .int .i64 2, .int .i64 3] 34)
  have hw1 := hw.alloc (.cells #[.int .i64 500000003, .int .i64 2, .int .i64 3] 34)
  have zw : w.heap.size < (w.alloc (.cells #[.int .i64 500000003, .int .i64 2, .int .i64 3] 34)).heap.size := by simp
  have hmk : ∀ W, Below (w.alloc (.cells #[.int .i64 500000003, .int .i64 2, .int .i64 3] 34)).heap.size (w.alloc (.cells #[.int .i64 500000003, .int .i64 2, .int .i64 3] 34)) W → ∀ (vr : Value) (T : Nat → Prop), IntsAt W T vr rndA → (∀ b, T b → b < W.heap.size) →
      Calls Tryz.prog 21 #[.agg #[.int .i64 500000003, .int .i64 2, .int .i64 3], .string ⟨#[48, 49, 50, 51, 52, 53, 54, 55, 56, 57, 97, 98, 99, 100, 101, 102]⟩, vr] W (fun e w' => ∃ vm vl, e = .returned (.tuple #[.agg #[.int .i64 500000003, .int .i64 2, .int .i64 3, .int .i64 0, vm, .string (shaOf keyA)], vl, .int .i64 0]) ∧ StrsAt w' (fun b => W.heap.size ≤ b ∧ b < w'.heap.size) vm (marksL LA) ∧ ShAt w' (fun b => W.heap.size ≤ b ∧ b < w'.heap.size) vl LA ∧ Below W.heap.size W w') := fun W hW vr T hv hT =>
    (f_Make 500000003 1 3 keyA secA rndA vr W (hw1.below hW) prmA (by decide) (by decide) (by decide) (by decide) keyA_size
      (fun W' hW' => p_Pack3 500000003 keyA W' hW' prmA (by decide) (by decide) keyA_size) (hv.mono hT) secA_in rndA_in (by rw [secA_len]; decide) (by rw [rndA_len, secA_len])).mono fun e w' ⟨vm, vl, he, hvm, hvl, hb⟩ => ⟨vm, vl, he, StrsAt.of_own hvm, hvl.at_, hb⟩
  have HND := Lib.hid hnd
  have HFL := Lib.hid hfl
  have HMK : Hid (∀ (W : World), Below (w.alloc (.cells #[.int .i64 500000003, .int .i64 2, .int .i64 3] 34)).heap.size (w.alloc (.cells #[.int .i64 500000003, .int .i64 2, .int .i64 3] 34)) W → ∀ (vr : Value) (T : Nat → Prop), IntsAt W T vr rndA → (∀ b, T b → b < W.heap.size) →
      Calls Tryz.prog 21 #[.agg #[.int .i64 500000003, .int .i64 2, .int .i64 3], .string ⟨#[48, 49, 50, 51, 52, 53, 54, 55, 56, 57, 97, 98, 99, 100, 101, 102]⟩, vr] W (fun e w' => ∃ vm vl, e = .returned (.tuple #[.agg #[.int .i64 500000003, .int .i64 2, .int .i64 3, .int .i64 0, vm, .string (shaOf keyA)], vl, .int .i64 0]) ∧ StrsAt w' (fun b => W.heap.size ≤ b ∧ b < w'.heap.size) vm (marksL LA) ∧ ShAt w' (fun b => W.heap.size ≤ b ∧ b < w'.heap.size) vl LA ∧ Below W.heap.size W w')) := Lib.hid hmk
  have HBA := Lib.hid hba
  have HW1 := Lib.hid hw1
  clear hnd hfl hmk hba hw1 hw
  go_enter Tryz.func10, Tryz.ntmps10
  go_upto_region 2 with fail
  generalize (w.alloc (.cells #[.int .i64 500000003, .int .i64 2, .int .i64 3] 34)) = w1 at *
  have v0 : ∀ o : Obj, (w1.alloc o).drew.cell? ⟨w.heap.size, 0, none⟩ = some (.int .i64 500000003) := fun o => (World.cell?_alloc_lt w1 o ⟨w.heap.size, 0, none⟩ zw).trans s0
  have v1 : ∀ o : Obj, (w1.alloc o).drew.cell? ⟨w.heap.size, 1, none⟩ = some (.int .i64 2) := fun o => (World.cell?_alloc_lt w1 o ⟨w.heap.size, 1, none⟩ zw).trans s1
  have v2 : ∀ o : Obj, (w1.alloc o).drew.cell? ⟨w.heap.size, 2, none⟩ = some (.int .i64 3) := fun o => (World.cell?_alloc_lt w1 o ⟨w.heap.size, 2, none⟩ zw).trans s2
  go_cut [2, 3, 4] from 13 to 20 (fun c l e wx => AwQ w1 c l e wx)
  case first =>
    go_region_law (first
      | ((try go_simp); go_at_call 24; ((with_reducible refine (HND.out _).mono ?_); rintro e wk1 ⟨rfl, hbwk1⟩; have hbwk1' : Below w1.heap.size w1 wk1 := (by first | exact hbwk1 | exact ((Below.refl _ _).drew).trans hbwk1 | exact (((Below.refl _ _).alloc (Nat.le_refl _) _).drew).trans (hbwk1.mono (by simp)) | exact ((Below.refl _ _).alloc (Nat.le_refl _) _).trans (hbwk1.mono (by simp))); have Hwk1 : Hid (Below w1.heap.size w1 wk1) := Lib.hid hbwk1'; have pwk10 : wk1.cell? ⟨w.heap.size, 0, none⟩ = some (.int .i64 500000003) := (Hwk1.out.cell (p := ⟨w.heap.size, 0, none⟩) zw).trans s0; have pwk11 : wk1.cell? ⟨w.heap.size, 1, none⟩ = some (.int .i64 2) := (Hwk1.out.cell (p := ⟨w.heap.size, 1, none⟩) zw).trans s1; have pwk12 : wk1.cell? ⟨w.heap.size, 2, none⟩ = some (.int .i64 3) := (Hwk1.out.cell (p := ⟨w.heap.size, 2, none⟩) zw).trans s2; have zwk1 : w.heap.size < wk1.heap.size := World.block_lt_of_cell? _ _ pwk10; have xwk10 : ∀ o : Obj, (wk1.alloc o).cell? ⟨w.heap.size, 0, none⟩ = some (.int .i64 500000003) := (fun o => (World.cell?_alloc_lt wk1 o ⟨w.heap.size, 0, none⟩ zwk1).trans pwk10); have xwk11 : ∀ o : Obj, (wk1.alloc o).cell? ⟨w.heap.size, 1, none⟩ = some (.int .i64 2) := (fun o => (World.cell?_alloc_lt wk1 o ⟨w.heap.size, 1, none⟩ zwk1).trans pwk11); have xwk12 : ∀ o : Obj, (wk1.alloc o).cell? ⟨w.heap.size, 2, none⟩ = some (.int .i64 3) := (fun o => (World.cell?_alloc_lt wk1 o ⟨w.heap.size, 2, none⟩ zwk1).trans pwk12); (try (have kcwk1 : Blk wk1 w1.heap.size 40 #[.int .i64 0, .int .i64 0, .int .i64 0, .int .i64 0, .slice none 0 0, .string ⟨#[]⟩] := (by first | exact (Blk.new w1 40 #[.int .i64 0, .int .i64 0, .int .i64 0, .int .i64 0, .slice none 0 0, .string ⟨#[]⟩]).below hbwk1 (by simp) | exact (Blk.new w1 40 #[.int .i64 0, .int .i64 0, .int .i64 0, .int .i64 0, .slice none 0 0, .string ⟨#[]⟩]).drew.below hbwk1 (by simp)))); clear hbwk1 hbwk1'; go_simp))
      | ((try go_simp); go_at_call 22; ((with_reducible refine (HFL.out _).mono ?_); rintro e wk2 ⟨vr, rfl, hvr, hbwk2⟩; have hbwk2' : Below wk1.heap.size wk1 wk2 := (by first | exact hbwk2 | exact ((Below.refl _ _).drew).trans hbwk2 | exact (((Below.refl _ _).alloc (Nat.le_refl _) _).drew).trans (hbwk2.mono (by simp)) | exact ((Below.refl _ _).alloc (Nat.le_refl _) _).trans (hbwk2.mono (by simp))); have Hwk2 : Hid (Below w1.heap.size w1 wk2) := Lib.hid (Hwk1.out.trans (hbwk2'.mono Hwk1.out.size)); have pwk20 : wk2.cell? ⟨w.heap.size, 0, none⟩ = some (.int .i64 500000003) := (Hwk2.out.cell (p := ⟨w.heap.size, 0, none⟩) zw).trans s0; have pwk21 : wk2.cell? ⟨w.heap.size, 1, none⟩ = some (.int .i64 2) := (Hwk2.out.cell (p := ⟨w.heap.size, 1, none⟩) zw).trans s1; have pwk22 : wk2.cell? ⟨w.heap.size, 2, none⟩ = some (.int .i64 3) := (Hwk2.out.cell (p := ⟨w.heap.size, 2, none⟩) zw).trans s2; have zwk2 : w.heap.size < wk2.heap.size := World.block_lt_of_cell? _ _ pwk20; have xwk20 : ∀ o : Obj, (wk2.alloc o).cell? ⟨w.heap.size, 0, none⟩ = some (.int .i64 500000003) := (fun o => (World.cell?_alloc_lt wk2 o ⟨w.heap.size, 0, none⟩ zwk2).trans pwk20); have xwk21 : ∀ o : Obj, (wk2.alloc o).cell? ⟨w.heap.size, 1, none⟩ = some (.int .i64 2) := (fun o => (World.cell?_alloc_lt wk2 o ⟨w.heap.size, 1, none⟩ zwk2).trans pwk21); have xwk22 : ∀ o : Obj, (wk2.alloc o).cell? ⟨w.heap.size, 2, none⟩ = some (.int .i64 3) := (fun o => (World.cell?_alloc_lt wk2 o ⟨w.heap.size, 2, none⟩ zwk2).trans pwk22); (try (have kcwk2 : Blk wk2 wk1.heap.size 40 #[.int .i64 0, .int .i64 0, .int .i64 0, .int .i64 0, .slice none 0 0, .string ⟨#[]⟩] := (by first | exact (Blk.new wk1 40 #[.int .i64 0, .int .i64 0, .int .i64 0, .int .i64 0, .slice none 0 0, .string ⟨#[]⟩]).below hbwk2 (by simp) | exact (Blk.new wk1 40 #[.int .i64 0, .int .i64 0, .int .i64 0, .int .i64 0, .slice none 0 0, .string ⟨#[]⟩]).drew.below hbwk2 (by simp)))); (try (have kcwk2 := kcwk1.below hbwk2' kcwk1.lt)); have HM2 := Lib.hid (fun (W : World) (hW : Below wk2.heap.size wk2 W) => HMK.out W (Hwk2.out.trans (hW.mono Hwk2.out.size)) vr _ (hvr.keep fun b hb => hW.block b hb.2) (fun b hb => Nat.lt_of_lt_of_le hb.2 hW.size)); clear hvr; clear hbwk2 hbwk2'; go_simp))
      | ((try go_simp); go_at_call 21; ((refine (HM2.out _ (by first | exact Below.refl _ _ | exact (Below.refl _ _).alloc (Nat.le_refl _) _)).mono ?_); rintro e wk3 ⟨vm, vl, rfl, hvm, hvl, hbwk3⟩; have hbwk3' : Below wk2.heap.size wk2 wk3 := (by first | exact hbwk3 | exact ((Below.refl _ _).drew).trans hbwk3 | exact (((Below.refl _ _).alloc (Nat.le_refl _) _).drew).trans (hbwk3.mono (by simp)) | exact ((Below.refl _ _).alloc (Nat.le_refl _) _).trans (hbwk3.mono (by simp))); have Hwk3 : Hid (Below w1.heap.size w1 wk3) := Lib.hid (Hwk2.out.trans (hbwk3'.mono Hwk2.out.size)); have pwk30 : wk3.cell? ⟨w.heap.size, 0, none⟩ = some (.int .i64 500000003) := (Hwk3.out.cell (p := ⟨w.heap.size, 0, none⟩) zw).trans s0; have pwk31 : wk3.cell? ⟨w.heap.size, 1, none⟩ = some (.int .i64 2) := (Hwk3.out.cell (p := ⟨w.heap.size, 1, none⟩) zw).trans s1; have pwk32 : wk3.cell? ⟨w.heap.size, 2, none⟩ = some (.int .i64 3) := (Hwk3.out.cell (p := ⟨w.heap.size, 2, none⟩) zw).trans s2; have zwk3 : w.heap.size < wk3.heap.size := World.block_lt_of_cell? _ _ pwk30; have xwk30 : ∀ o : Obj, (wk3.alloc o).cell? ⟨w.heap.size, 0, none⟩ = some (.int .i64 500000003) := (fun o => (World.cell?_alloc_lt wk3 o ⟨w.heap.size, 0, none⟩ zwk3).trans pwk30); have xwk31 : ∀ o : Obj, (wk3.alloc o).cell? ⟨w.heap.size, 1, none⟩ = some (.int .i64 2) := (fun o => (World.cell?_alloc_lt wk3 o ⟨w.heap.size, 1, none⟩ zwk3).trans pwk31); have xwk32 : ∀ o : Obj, (wk3.alloc o).cell? ⟨w.heap.size, 2, none⟩ = some (.int .i64 3) := (fun o => (World.cell?_alloc_lt wk3 o ⟨w.heap.size, 2, none⟩ zwk3).trans pwk32); (try (have kcwk3 : Blk wk3 wk2.heap.size 40 #[.int .i64 0, .int .i64 0, .int .i64 0, .int .i64 0, .slice none 0 0, .string ⟨#[]⟩] := (by first | exact (Blk.new wk2 40 #[.int .i64 0, .int .i64 0, .int .i64 0, .int .i64 0, .slice none 0 0, .string ⟨#[]⟩]).below hbwk3 (by simp) | exact (Blk.new wk2 40 #[.int .i64 0, .int .i64 0, .int .i64 0, .int .i64 0, .slice none 0 0, .string ⟨#[]⟩]).drew.below hbwk3 (by simp)))); (try (have kcwk3 := kcwk2.below hbwk3' kcwk2.lt)); obtain ⟨Avm, nvm, cvm, rfl, -⟩ := id hvm; have HVM := Lib.hid hvm; have HVL := Lib.hid hvl; clear hvm hvl; (try (have d0 := (kcwk3.cell 0).trans (show _ = some (Value.int .i64 0) from rfl))); (try (have fz0 := kcwk3.frozen 0)); (try (have d1 := (kcwk3.cell 1).trans (show _ = some (Value.int .i64 0) from rfl))); (try (have fz1 := kcwk3.frozen 1)); (try (have d2 := (kcwk3.cell 2).trans (show _ = some (Value.int .i64 0) from rfl))); (try (have fz2 := kcwk3.frozen 2)); (try (have d3 := (kcwk3.cell 3).trans (show _ = some (Value.int .i64 0) from rfl))); (try (have fz3 := kcwk3.frozen 3)); (try (have d4 := (kcwk3.cell 4).trans (show _ = some (Value.slice none 0 0) from rfl))); (try (have fz4 := kcwk3.frozen 4)); (try (have d5 := (kcwk3.cell 5).trans (show _ = some (Value.string ⟨#[]⟩) from rfl))); (try (have fz5 := kcwk3.frozen 5)); clear hbwk3 hbwk3'; go_simp)))
    all_goals
      clear v0 v1 v2 xwk10 xwk11 xwk12 xwk20 xwk21 xwk22 xwk30 xwk31 xwk32 pwk10 pwk11 pwk12 pwk20 pwk21 pwk22 pwk30 pwk31 pwk32 s0 s1 s2 zwk1 zwk2 zwk3
      try clear d0 d1 d2 d3 d4 d5 fz0 fz1 fz2 fz3 fz4 fz5
      go_wp2_with fail
      go_meet
      first
        | with_reducible exact aw_second Hwk3.out kcwk3 (by first | exact Nat.le_refl _ | exact Hwk1.out.size | exact Hwk2.out.size) HVM.out HVL.out (fun b hb => ⟨hb.2, by have h1 := hb.1; first | (have h2 := kcwk2.lt; omega) | (simp at h1; omega)⟩)
        | with_reducible exact aw_first Hwk3.out HVM.out HVL.out (fun b hb => hb.2)
  case rest =>
    obtain ⟨C, vm, rfl, rfl, hC, hkc, hvm, hvl, hbx⟩ := hcut
    clear HND HFL HMK v0 v1 v2 s0 s1 s2
    obtain ⟨i0, hi, hz0, hz1, hz2⟩ := info_parts infoS
    obtain ⟨A, n, c, rfl, hn, hnc, -⟩ := id hvl
    have hn3 : n = 3 := by rw [hn, LA_len]
    subst hn3
    obtain ⟨Am, nm, cm, rfl, hnm, -⟩ := id hvm
    have hnm3 : nm = 3 := by rw [hnm, marksA_len]
    subst hnm3
    have hwx : BasesOk wc := HW1.out.below hbx
    have hsl := fun (W : World) => run_slice_lo (P := Tryz.prog) W 41 49 i0 2 Tryz.underlying41 hi hz1 A 3 c 1 (by decide) hnc (1 : Int) rfl
    have hsl2 := fun (W : World) => run_slice_hi (P := Tryz.prog) W 41 49 i0 Tryz.underlying41 hi A 3 c 1 (by omega) (1 : Int) rfl
    simp only [show 3 - 1 = 2 from rfl] at hsl
    have hrA : ∀ W, Below wc.heap.size wc W → Calls Tryz.prog 27 #[.agg #[.int .i64 500000003, .int .i64 2, .int .i64 3, .int .i64 0, .slice Am 3 cm, .string (shaOf keyA)], .slice (subA A c 1 2) 2 (c - 1)] W fun e w' => e = .returned (.tuple #[.string ⟨#[48, 49, 50, 51, 52, 53, 54, 55, 56, 57, 97, 98, 99, 100, 101, 102]⟩, .int .i64 0]) ∧ Below W.heap.size W w' := fun W hW => by
      have hl2 : (LA.drop 1).length = 2 := by rw [List.length_drop, LA_len]
      have hs := some_drop LA
      have h := f_Recover 500000003 2 3 (.slice Am 3 cm) (.slice (subA A c 1 2) 2 (c - 1)) (LA.drop 1) (marksL LA) keyA _ _ W (hwx.below hW) prmA (by decide) (by decide) (by decide) (by decide) (by decide)
        ((hvl.drop1 (by decide) (by omega)).keep fun b hb => hW.block b hb) (fun b hb => Nat.lt_of_lt_of_le hb hW.size) (by omega) (by omega)
        (hvm.keep fun b hb => hW.block b hb) (fun b hb => Nat.lt_of_lt_of_le hb hW.size) marksA_len (marks_32 LA) (fit_some (by decide) (by decide) (by rw [secA_len]; decide) hs)
        (by have h := ((FromDealM.deal (p := 500000003) (k := 1) (hold := 3) (sec := secA) (rnd := rndA) (by decide)).some hs).good; rw [secA_len] at h; exact h) keyA_size
        (fun hn => by have h := comb_some (p := 500000003) (k := 1) (hold := 3) (sec := secA) (rnd := rndA) prmA (by decide) secA_in hs hn; rw [secA_len] at h; exact h)
      unfold RecPost at h
      rw [if_neg (by rw [hl2]; decide), if_neg (by rw [hl2]; decide)] at h
      exact h
    have hrB : ∀ W, Below wc.heap.size wc W → Calls Tryz.prog 27 #[.agg #[.int .i64 500000003, .int .i64 2, .int .i64 3, .int .i64 0, .slice Am 3 cm, .string (shaOf keyA)], .slice A 1 c] W fun e w' => e = .returned (.tuple #[.string ⟨#[]⟩, .int .i64 5]) ∧ Below W.heap.size W w' := fun W hW => by
      have hl2 : (LA.take 1).length = 1 := by rw [List.length_take, LA_len]; rfl
      have hs := some_take LA
      have h := f_Recover 500000003 2 3 (.slice Am 3 cm) (.slice A 1 c) (LA.take 1) (marksL LA) keyA _ _ W (hwx.below hW) prmA (by decide) (by decide) (by decide) (by decide) (by decide)
        ((hvl.take (m := 1) (by decide)).keep fun b hb => hW.block b hb) (fun b hb => Nat.lt_of_lt_of_le hb hW.size) (by omega) (by omega)
        (hvm.keep fun b hb => hW.block b hb) (fun b hb => Nat.lt_of_lt_of_le hb hW.size) marksA_len (marks_32 LA) (fit_some (by decide) (by decide) (by rw [secA_len]; decide) hs)
        (by have h := ((FromDealM.deal (p := 500000003) (k := 1) (hold := 3) (sec := secA) (rnd := rndA) (by decide)).some hs).good; rw [secA_len] at h; exact h) keyA_size
        (fun hn => by rw [hl2] at hn; exact absurd hn (by decide))
      unfold RecPost at h
      rw [if_pos (by rw [hl2]; decide), if_pos (by rw [hl2]; decide)] at h
      exact h
    have hst : ∀ W, Calls Tryz.prog 12 #[.string ⟨#[112, 104, 114, 97, 115, 101]⟩, .string ⟨#[115, 97, 108, 116]⟩, .int .i64 3] W fun e w' => ∃ R : ByteArray, (R.size : Int) = 16 ∧ e = .returned (.tuple #[.string R, .int .i64 0]) ∧ Below W.heap.size W w' := fun W => by
      have h := f_Stretch ⟨#[112, 104, 114, 97, 115, 101]⟩ ⟨#[115, 97, 108, 116]⟩ 3 W (by decide) (by decide)
      unfold StretchPost at h
      have e1 : strE ⟨#[112, 104, 114, 97, 115, 101]⟩ ⟨#[115, 97, 108, 116]⟩ 3 = 0 := by decide
      have e2 : strR ⟨#[112, 104, 114, 97, 115, 101]⟩ ⟨#[115, 97, 108, 116]⟩ 3 = (strS ⟨#[112, 104, 114, 97, 115, 101]⟩ ⟨#[115, 97, 108, 116]⟩ 3).extract 0 16 := by unfold strR; rw [if_pos e1]; rfl
      rw [e1, e2] at h
      refine h.mono fun e w' ⟨he, hb⟩ => ⟨_, ?_, he, hb⟩
      have := strS_size ⟨#[112, 104, 114, 97, 115, 101]⟩ ⟨#[115, 97, 108, 116]⟩ 3
      rw [ByteArray.size_extract]; omega
    have hck : ∀ W, Below wc.heap.size wc W → Calls Tryz.prog 56 #[.agg #[.int .i64 500000003, .int .i64 2, .int .i64 3, .int .i64 0, .slice Am 3 cm, .string (shaOf keyA)]] W fun e w' => e = .returned (.int .i64 0) ∧ Below W.heap.size W w' := fun W hW =>
      f_Check 500000003 2 3 (.slice Am 3 cm) (marksL LA) (shaOf keyA) _ W (hwx.below hW) prmA (by decide) (by decide) (by decide) (by decide) (by decide) (hvm.keep fun b hb => hW.block b hb) (fun b hb => Nat.lt_of_lt_of_le hb hW.size) marksA_len (marks_32 LA) (shaOf_size _)
    have hlk : ∀ W, Calls Tryz.prog 14 #[.string ⟨#[48, 49, 50, 51, 52, 53, 54, 55, 56, 57, 97, 98, 99, 100, 101, 102]⟩] W fun e w' => e = .returned (.string (shaOf keyA)) ∧ Below W.heap.size W w' := fun W => f_Lock keyA W (by decide)
    have c0 : wc.cell? ⟨C, 0, none⟩ = some (.int .i64 500000003) := hkc.cell 0
    have c1 : wc.cell? ⟨C, 1, none⟩ = some (.int .i64 2) := hkc.cell 1
    have c2 : wc.cell? ⟨C, 2, none⟩ = some (.int .i64 3) := hkc.cell 2
    have c3 : wc.cell? ⟨C, 3, none⟩ = some (.int .i64 0) := hkc.cell 3
    have c4 : wc.cell? ⟨C, 4, none⟩ = some (.slice Am 3 cm) := hkc.cell 4
    have c5 : wc.cell? ⟨C, 5, none⟩ = some (.string (shaOf keyA)) := hkc.cell 5
    have hb0 := Below.refl wc.heap.size wc
    have hfin : ∀ W, Below wc.heap.size wc W → Below w.heap.size w W := fun W hW => (HBA.out.trans (hbx.mono HBA.out.size)).trans (hW.mono (HBA.out.trans (hbx.mono HBA.out.size)).size)
    have HRA := Lib.hid hrA
    have HRB := Lib.hid hrB
    have HST := Lib.hid hst
    have HCK := Lib.hid hck
    have HLK := Lib.hid hlk
    have HFIN := Lib.hid hfin
    have hc3 : 3 ≤ c := hnc
    clear hrA hrB hst hck hlk hfin hkc hvm hvl hbx hwx hn hnm hnc hC HW1 HBA
    go_wp2_with fail
    go_region_held3 (fun W => W.cell? ⟨C, 0, none⟩ = some (.int .i64 500000003) ∧ W.cell? ⟨C, 1, none⟩ = some (.int .i64 2) ∧ W.cell? ⟨C, 2, none⟩ = some (.int .i64 3) ∧ W.cell? ⟨C, 3, none⟩ = some (.int .i64 0) ∧ W.cell? ⟨C, 4, none⟩ = some (.slice Am 3 cm) ∧ W.cell? ⟨C, 5, none⟩ = some (.string (shaOf keyA)) ∧ Below wc.heap.size wc W)
      (first
        | exact ⟨c0, c1, c2, c3, c4, c5, hb0.drew⟩
        | (go_split_ands
           refine ⟨?_, ?_, ?_, ?_, ?_, ?_, ?_⟩
           · (rw [hbk.cell (World.block_lt_of_cell? _ _ ‹_›)]; assumption)
           · (rw [hbk.cell (World.block_lt_of_cell? _ _ ‹_›)]; assumption)
           · (rw [hbk.cell (World.block_lt_of_cell? _ _ ‹_›)]; assumption)
           · (rw [hbk.cell (World.block_lt_of_cell? _ _ ‹_›)]; assumption)
           · (rw [hbk.cell (World.block_lt_of_cell? _ _ ‹_›)]; assumption)
           · (rw [hbk.cell (World.block_lt_of_cell? _ _ ‹_›)]; assumption)
           · exact Below.trans ‹Below wc.heap.size wc _› (hbk.mono (‹Below wc.heap.size wc _›).size)))
      (first
        | (go_at_call 27; ((with_reducible refine (HRA.out _ (by go_split_ands; assumption)).mono ?_); rintro e wk ⟨rfl, hbk⟩)))
    go_split_ands
    have hbA : Below wc.heap.size wc wk := by assumption
    have d0 : wk.cell? ⟨C, 0, none⟩ = some (.int .i64 500000003) := by assumption
    have d1 : wk.cell? ⟨C, 1, none⟩ = some (.int .i64 2) := by assumption
    have d2 : wk.cell? ⟨C, 2, none⟩ = some (.int .i64 3) := by assumption
    have d3 : wk.cell? ⟨C, 3, none⟩ = some (.int .i64 0) := by assumption
    have d4 : wk.cell? ⟨C, 4, none⟩ = some (.slice Am 3 cm) := by assumption
    have d5 : wk.cell? ⟨C, 5, none⟩ = some (.string (shaOf keyA)) := by assumption
    clear c0 c1 c2 c3 c4 c5 hb0
    clear hbk
    go_wp2_with fail
    go_region_held3 (fun W => W.cell? ⟨C, 0, none⟩ = some (.int .i64 500000003) ∧ W.cell? ⟨C, 1, none⟩ = some (.int .i64 2) ∧ W.cell? ⟨C, 2, none⟩ = some (.int .i64 3) ∧ W.cell? ⟨C, 3, none⟩ = some (.int .i64 0) ∧ W.cell? ⟨C, 4, none⟩ = some (.slice Am 3 cm) ∧ W.cell? ⟨C, 5, none⟩ = some (.string (shaOf keyA)) ∧ Below wc.heap.size wc W)
      (first
        | exact ⟨d0, d1, d2, d3, d4, d5, hbA.drew⟩
        | (go_split_ands
           refine ⟨?_, ?_, ?_, ?_, ?_, ?_, ?_⟩
           · (rw [hbk.cell (World.block_lt_of_cell? _ _ ‹_›)]; assumption)
           · (rw [hbk.cell (World.block_lt_of_cell? _ _ ‹_›)]; assumption)
           · (rw [hbk.cell (World.block_lt_of_cell? _ _ ‹_›)]; assumption)
           · (rw [hbk.cell (World.block_lt_of_cell? _ _ ‹_›)]; assumption)
           · (rw [hbk.cell (World.block_lt_of_cell? _ _ ‹_›)]; assumption)
           · (rw [hbk.cell (World.block_lt_of_cell? _ _ ‹_›)]; assumption)
           · exact Below.trans ‹Below wc.heap.size wc _› (hbk.mono (‹Below wc.heap.size wc _›).size)))
      (first
        | (go_at_call 27; ((with_reducible refine (HRB.out _ (by go_split_ands; assumption)).mono ?_); rintro e wk2 ⟨rfl, hbk⟩)))
    go_split_ands
    have hbB : Below wc.heap.size wc wk2 := by assumption
    have e0 : wk2.cell? ⟨C, 0, none⟩ = some (.int .i64 500000003) := by assumption
    have e1 : wk2.cell? ⟨C, 1, none⟩ = some (.int .i64 2) := by assumption
    have e2 : wk2.cell? ⟨C, 2, none⟩ = some (.int .i64 3) := by assumption
    have e3 : wk2.cell? ⟨C, 3, none⟩ = some (.int .i64 0) := by assumption
    have e4 : wk2.cell? ⟨C, 4, none⟩ = some (.slice Am 3 cm) := by assumption
    have e5 : wk2.cell? ⟨C, 5, none⟩ = some (.string (shaOf keyA)) := by assumption
    clear d0 d1 d2 d3 d4 d5 hbA
    clear hbk
    go_wp2_with fail
    refine (HST.out _).mono ?_
    rintro e w7 ⟨R, hR, rfl, hb7⟩
    have hzC : C < wk2.heap.size := World.block_lt_of_cell? _ _ e0
    have g0 := (hb7.cell (p := ⟨C, 0, none⟩) hzC).trans e0
    have g1 := (hb7.cell (p := ⟨C, 1, none⟩) hzC).trans e1
    have g2 := (hb7.cell (p := ⟨C, 2, none⟩) hzC).trans e2
    have g3 := (hb7.cell (p := ⟨C, 3, none⟩) hzC).trans e3
    have g4 := (hb7.cell (p := ⟨C, 4, none⟩) hzC).trans e4
    have g5 := (hb7.cell (p := ⟨C, 5, none⟩) hzC).trans e5
    have hbC := hbB.trans (hb7.mono hbB.size)
    clear e0 e1 e2 e3 e4 e5 hbB hb7
    go_wp2_with fail
    go_region_held3 (fun W => W.cell? ⟨C, 0, none⟩ = some (.int .i64 500000003) ∧ W.cell? ⟨C, 1, none⟩ = some (.int .i64 2) ∧ W.cell? ⟨C, 2, none⟩ = some (.int .i64 3) ∧ W.cell? ⟨C, 3, none⟩ = some (.int .i64 0) ∧ W.cell? ⟨C, 4, none⟩ = some (.slice Am 3 cm) ∧ W.cell? ⟨C, 5, none⟩ = some (.string (shaOf keyA)) ∧ Below wc.heap.size wc W)
      (first
        | exact ⟨g0, g1, g2, g3, g4, g5, hbC.drew⟩
        | (go_split_ands
           refine ⟨?_, ?_, ?_, ?_, ?_, ?_, ?_⟩
           · (rw [hbk.cell (World.block_lt_of_cell? _ _ ‹_›)]; assumption)
           · (rw [hbk.cell (World.block_lt_of_cell? _ _ ‹_›)]; assumption)
           · (rw [hbk.cell (World.block_lt_of_cell? _ _ ‹_›)]; assumption)
           · (rw [hbk.cell (World.block_lt_of_cell? _ _ ‹_›)]; assumption)
           · (rw [hbk.cell (World.block_lt_of_cell? _ _ ‹_›)]; assumption)
           · (rw [hbk.cell (World.block_lt_of_cell? _ _ ‹_›)]; assumption)
           · exact Below.trans ‹Below wc.heap.size wc _› (hbk.mono (‹Below wc.heap.size wc _›).size)))
      (first
        | (go_at_call 56; ((with_reducible refine (HCK.out _ (by go_split_ands; assumption)).mono ?_); rintro e wk3 ⟨rfl, hbk⟩))
        | (go_at_call 14; ((with_reducible refine (HLK.out _).mono ?_); rintro e wk4 ⟨rfl, hbk⟩)))
    go_split_ands
    have hbD := HFIN.out wk4 (by assumption)
    go_wp2_with fail
    go_ret
    exact ⟨rfl, hbD⟩
end Go.Proofs.YtjfphobfikadlaaGreatDoor
namespace Go.Proofs.YtjfphobfikadlaaGreatDoor
open Go.RowKit Num

/-- What the calls keep: the dice, the plan, all that lay there before. -/
structure LsK (w : World) (d B p need hold : Nat) (W : World) : Prop where
  dice : Dc W d
  plan : Blk W B 34 #[.int .i64 (p : Int), .int .i64 (need : Int), .int .i64 (hold : Int)]
  old : Below d w W
  lt : d < B
section
variable {w W W' : World} {d B p need hold : Nat}
theorem LsK.alloc (h : LsK w d B p need hold W) (o : Obj) : LsK w d B p need hold (W.alloc o) :=
  ⟨h.dice.alloc o, h.plan.below ((Below.refl W.heap.size W).alloc (Nat.le_refl _) o) h.plan.lt, h.old.alloc (Nat.le_of_lt h.dice.lt) o, h.lt⟩
theorem LsK.drew (h : LsK w d B p need hold W) : LsK w d B p need hold W.drew := ⟨h.dice.drew, h.plan, h.old.drew, h.lt⟩
theorem LsK.below (h : LsK w d B p need hold W) (hb : Below W.heap.size W W') : LsK w d B p need hold W' :=
  ⟨h.dice.below hb h.dice.lt, h.plan.below hb h.plan.lt, h.old.trans (hb.mono (Nat.le_of_lt h.dice.lt)), h.lt⟩
theorem LsK.grown (h : LsK w d B p need hold W) (hg : W.grownBy W' (some d)) (hd : Dc W' d) : LsK w d B p need hold W' :=
  ⟨hd, h.plan.grown hg (fun e => by injection e with e; have := h.lt; omega), h.old.grown hg (Nat.le_of_lt h.dice.lt) (fun g hg => by injection hg with hg; omega), h.lt⟩
theorem LsK.ne_d (h : LsK w d B p need hold W) : some W.heap.size ≠ some d := fun e => by injection e with e; have := h.dice.lt; omega
theorem LsK.cell0 (h : LsK w d B p need hold W) : W.cell? ⟨B, 0, none⟩ = some (.int .i64 (p : Int)) := h.plan.cell 0
theorem LsK.cell1 (h : LsK w d B p need hold W) : W.cell? ⟨B, 1, none⟩ = some (.int .i64 (need : Int)) := h.plan.cell 1
theorem LsK.cell2 (h : LsK w d B p need hold W) : W.cell? ⟨B, 2, none⟩ = some (.int .i64 (hold : Int)) := h.plan.cell 2
end
/-- Shares as they are dealt. -/
def LsS (p hold : Nat) (W : World) (S : Nat → Prop) (v : Value) : Prop := ∃ L : List Sh, ShAt W S v L ∧ GoodSh p hold (cntP p) L ∧ L.length = hold ∧ ∀ j, j < hold → (shAt L j).1 = (j : Int) + 1
theorem LsS.keep {p hold : Nat} {W W' : World} {S S' : Nat → Prop} {v : Value} (h : LsS p hold W S v) (hk : ∀ z, S z → W'.heap[z]? = W.heap[z]?) (hS : ∀ z, S z → S' z) : LsS p hold W' S' v := by
  obtain ⟨L, h1, h2, h3, h4⟩ := h
  exact ⟨L, (h1.keep hk).mono hS, h2, h3, h4⟩
def LsQ (w : World) (d B p need hold : Nat) (l e : Value) (wx : World) : Prop := e = .int .i64 0 ∧ LsS p hold wx (fun z => z < wx.heap.size) l ∧ LsK w d B p need hold wx
theorem ls_first {w wk : World} {d B p need hold : Nat} {S : Nat → Prop} {vl : Value} (h : LsK w d B p need hold wk) (hl : LsS p hold wk S vl) (hS : ∀ z, S z → z < wk.heap.size) (o : Obj) : LsQ w d B p need hold vl (.int .i64 0) (wk.alloc o) :=
  ⟨rfl, hl.keep (fun z hz => Below.heap_alloc _ _ _ (hS z hz)) (fun z hz => by have := hS z hz; simp; omega), h.alloc o⟩
theorem ls_second {w wk : World} {d B p need hold C : Nat} {S : Nat → Prop} {vl : Value} {x0 x1 x2 x3 x4 x5 : Value} (h : LsK w d B p need hold wk) (kc : Blk wk C 40 #[x0, x1, x2, x3, x4, x5]) (hC : ∃ W, LsK w d B p need hold W ∧ C = W.heap.size) (hl : LsS p hold wk S vl) (hS : ∀ z, S z → z < wk.heap.size ∧ z ≠ C) (a b c e f g : Value) :
    LsQ w d B p need hold vl (.int .i64 0) ((((((wk.setCell ⟨C, 0, none⟩ a).setCell ⟨C, 1, none⟩ b).setCell ⟨C, 2, none⟩ c).setCell ⟨C, 3, none⟩ e).setCell ⟨C, 4, none⟩ f).setCell ⟨C, 5, none⟩ g) := by
  obtain ⟨h1, h2⟩ := circ_set kc a b c e f g
  generalize ((((((wk.setCell ⟨C, 0, none⟩ a).setCell ⟨C, 1, none⟩ b).setCell ⟨C, 2, none⟩ c).setCell ⟨C, 3, none⟩ e).setCell ⟨C, 4, none⟩ f).setCell ⟨C, 5, none⟩ g) = wf at *
  obtain ⟨W, hW, rfl⟩ := hC
  have hz := h2.size
  have hd := hW.dice.lt
  have hp := hW.plan.lt
  refine ⟨rfl, hl.keep (fun z hz => h2.block z (hS z hz).1 (fun e => by injection e with e; exact (hS z hz).2 e)) (fun z hz' => by have := (hS z hz').1; omega), ?_, ?_, ?_, h.lt⟩
  · exact h.dice.grown h2 (fun g hg => by injection hg with hg; omega)
  · exact h.plan.grown h2 (fun e => by injection e with e; omega)
  · exact h.old.grown h2 (Nat.le_of_lt h.dice.lt) (fun g hg => by injection hg with hg; omega)
theorem packP_len (p : Nat) (l : List UInt8) (hp : p < 256 ∨ 16777216 ≤ p) (hl : l.length = 16) : (packP p l).length = cntP p := by
  unfold packP
  rcases hp with h | h
  · rw [if_pos h, bitsL_len, hl, cnt0 h]
  · rw [if_neg (by omega), pack3_len, hl, cnt3 h]
end Go.Proofs.YtjfphobfikadlaaGreatDoor
