/- Contracts: the elements that follow from a seed. Plain facts on shares that are values of polynomials. Plain facts on the circle of the sanity check of the chapter. No program stands in it but its names. -/
import Derived.Test.YtjfphobfikadlaaGreatDoorZ10
import Derived.Test.YtjfphobfikadlaaGreatDoorZ23
import Derived.Test.YtjfphobfikadlaaGreatDoorZ39
set_option linter.unusedVariables false
set_option linter.unusedSimpArgs false
namespace Go.Proofs.YtjfphobfikadlaaGreatDoor
open Go.RowKit Num

/-- The numbers that follow from a seed. -/
def fillN (p s : Nat) : Nat → Nat
  | 0 => s
  | i + 1 => (fillN p s i * 7 + 3 * i + 5) % p
def fillL (p s n : Nat) : List Int := (List.range n).map fun i => ((fillN p s (i + 1) : Nat) : Int)
theorem fillL_len (p s n : Nat) : (fillL p s n).length = n := by simp [fillL]
theorem fillL_succ (p s n : Nat) : fillL p s (n + 1) = fillL p s n ++ [((fillN p s (n + 1) : Nat) : Int)] := by
  unfold fillL; rw [List.range_succ, List.map_append]; rfl
theorem fillN_lt (p s : Nat) (h : 1 ≤ p) (hs : s < p) : ∀ i, fillN p s i < p
  | 0 => hs
  | _ + 1 => Nat.mod_lt _ (by omega)
theorem fillL_in (p s n : Nat) (h : 1 ≤ p) : InF p (fillL p s n) := by
  intro k hk
  rw [fillL_len] at hk
  have e : (fillL p s n).getD k 0 = ((fillN p s (k + 1) : Nat) : Int) := by
    unfold fillL; rw [List.getD_eq_getElem?_getD, List.getElem?_map, List.getElem?_range hk]; rfl
  rw [e]
  have : fillN p s (k + 1) < p := Nat.mod_lt _ (by omega)
  omega
set_option maxRecDepth 100000 in
set_option maxHeartbeats 1000000 in
theorem y_Fill (p n : Nat) (seed : Int) (w : World) (h1 : 1 ≤ p) (h2 : p ≤ 1073741824) (hn : n ≤ 100000) :
    Calls Tryz.prog 22 #[.int .i64 (p : Int), .int .i64 seed, .int .i64 (n : Int)] w (IntsPost (fillL p (seed % (p : Int)).toNat n) w) := by
  obtain ⟨i0, hi, hz0, hz1, hz2⟩ := info_parts infoI
  obtain ⟨s, hs⟩ : ∃ s, (seed % (p : Int)).toNat = s := ⟨_, rfl⟩
  have hsl : s < p := by
    have := Int.emod_lt_of_pos seed (show (0 : Int) < p by omega)
    have := Int.emod_nonneg seed (show (p : Int) ≠ 0 by omega)
    omega
  have hse : seed % (p : Int) = (s : Int) := by
    have := Int.emod_nonneg seed (show (p : Int) ≠ 0 by omega)
    omega
  rw [hs]
  have hm := fun W => k_Mod seed p W (by omega) (by omega)
  rw [hse] at hm
  have HM := Lib.hid hm
  clear hs hse hm
  go_enter Tryz.func22, Tryz.ntmps22
  go_wp2_with fail
  refine (HM.out _).mono ?_
  rintro e w' ⟨rfl, rfl⟩
  go_wp2_with fail
  go_loopw [7, 8, 9] (fun o x t wr => ∃ k : Nat, k ≤ n ∧ t = .int .i64 (k : Int) ∧ x = .int .i64 ((fillN p s k : Nat) : Int) ∧ wr.ownsRow w.heap.size 3 1 o k ((fillL p s k).map (Value.int .i64)) ∧ Below w.heap.size w wr) (fun _ _ t _ => n - (intOf t).toNat)
  case atStart => exact ⟨0, by omega, rfl, rfl, World.ownsRow_nil _ _ _ _, Below.refl _ _⟩
  case round =>
    obtain ⟨k, hk, rfl, rfl, hown, hbl⟩ := hrel
    have hsz := hbl.size
    by_cases hlt : k < n
    · have qk : (k : Int) < (n : Int) := by omega
      have hx1 : fillN p s k < p := fillN_lt p s (by omega) hsl k
      have hx2 : fillN p s (k + 1) < p := fillN_lt p s (by omega) hsl (k + 1)
      have hnx : ((fillN p s k : Nat) * 7 + 3 * (k : Int) + 5).tmod (p : Int) = ((fillN p s (k + 1) : Nat) : Int) := by
        rw [Int.tmod_eq_emod_of_nonneg (by omega)]
        show _ = (((fillN p s k * 7 + 3 * k + 5) % p : Nat) : Int)
        rw [Int.natCast_emod]; rfl
      have hst := fillL_succ p s k
      obtain ⟨x, hx⟩ : ∃ x, fillN p s k = x := ⟨_, rfl⟩
      obtain ⟨y, hy⟩ : ∃ y, fillN p s (k + 1) = y := ⟨_, rfl⟩
      rw [hx] at hx1 hnx ⊢
      rw [hy] at hx2 hnx hst
      have HY := Lib.hid hy
      have HST := Lib.hid hst
      have HBL := Lib.hid hbl
      have p0 : ¬ (p : Int) = 0 := by omega
      clear hx hy hst hbl
      go_wp2_with (at_builtin; refine wpList_append_own _ rfl _ _ 24 rfl w.heap.size 3 i0 (.int .i64 0) 1 8 Tryz.underlying24 hi hz0 hz1 hz2 rfl (by decide) _ _ _ rfl (hown.alloc _) ⟨wr.heap.size, 0, none⟩ 1 1 [.int .i64 (y : Int)] rfl rfl (fun j u hj => by have := cell_one_new wr (.int .i64 (y : Int)) 3 j u hj; simpa using this) (ints_oneCell .i64 [_]) (by unfold maxLen; omega) (by omega) (by simp; omega) ?_)
      intro v' w2 hown' hgrow _
      have hg := grown_past hgrow
      have hown2 : w2.ownsRow w.heap.size 3 1 v' (k + 1) ((fillL p s (k + 1)).map (Value.int .i64)) := by rw [HST.out, List.map_append]; simpa using hown'
      have hul : ∀ g, u7.ownBlock = some g → w.heap.size ≤ g := fun g hg => (hown.lt g hg).1
      have HO2 := Lib.hid hown2
      have HB2 := Lib.hid (HBL.out.grown hg hsz hul)
      clear hown' hgrow hg hown2 hul hown
      go_wp2_with fail
      go_roundw
      case measure => simp [intOf]; omega
      case rel => exact ⟨k + 1, by omega, by go_num, by rw [HY.out], HO2.out, HB2.out⟩
    · have hkn : k = n := by omega
      subst hkn
      go_wp2_with fail
      go_ret
      exact ⟨_, rfl, IntsAt.of_own hown, hbl⟩
end Go.Proofs.YtjfphobfikadlaaGreatDoor
namespace Go.Proofs.YtjfphobfikadlaaGreatDoor
open Go.RowKit Num

theorem deal_atM (p k : Nat) (sec rnd : List Int) (n j : Nat) (h : j < n) : shAt (dealL p k sec rnd n) j = (((j + 1 : Nat) : Int), (List.range sec.length).map (dealV p k (j + 1) sec rnd)) := by
  unfold dealL shAt
  rw [List.getD_eq_getElem?_getD, List.getElem?_map, List.getElem?_range h]; rfl
theorem dealt_lenM (p k : Nat) (sec rnd : List Int) (n : Nat) : (dealL p k sec rnd n).length = n := by simp [dealL]
/-- The polynomial of an element. -/
def polDM (k : Nat) (sec rnd : List Int) (i : Nat) : List Int := sec.getD i 0 :: (rnd.drop (i * k)).take k
/-- Shares that are values of polynomials. -/
structure FromDealM (p hold m : Nat) (P : Nat → List Int) (L : List Sh) : Prop where
  good : GoodSh p hold m L
  val : ∀ i k, i < m → k < L.length → (shAt L k).2.getD i 0 = evH p (shAt L k).1 (P i)
theorem FromDealM.deal {p k hold : Nat} {sec rnd : List Int} (hp : 1 ≤ p) : FromDealM p hold sec.length (polDM k sec rnd) (dealL p k sec rnd hold) where
  good := {
    holder := fun j hj => by rw [dealt_lenM] at hj; rw [deal_atM _ _ _ _ _ _ hj]; show (1 : Int) ≤ ((j + 1 : Nat) : Int) ∧ _; constructor <;> omega
    once := fun i j hi hj hne => by rw [dealt_lenM] at hi hj; rw [deal_atM _ _ _ _ _ _ hi, deal_atM _ _ _ _ _ _ hj]; show ((i + 1 : Nat) : Int) ≠ ((j + 1 : Nat) : Int); omega
    len := fun j hj => by rw [dealt_lenM] at hj; rw [deal_atM _ _ _ _ _ _ hj]; simp
    inF := fun j hj => by
      rw [dealt_lenM] at hj
      rw [deal_atM _ _ _ _ _ _ hj]
      intro i hi
      have hi' : i < sec.length := by simpa using hi
      have e : ((List.range sec.length).map (dealV p k (j + 1) sec rnd)).getD i 0 = dealV p k (j + 1) sec rnd i := by rw [List.getD_eq_getElem?_getD, List.getElem?_map, List.getElem?_range hi']; rfl
      rw [e]
      exact evH_bd p _ hp _ }
  val := fun i j hi hj => by
    rw [dealt_lenM] at hj
    rw [deal_atM _ _ _ _ _ _ hj]
    show ((List.range sec.length).map (dealV p k (j + 1) sec rnd)).getD i 0 = _
    rw [List.getD_eq_getElem?_getD, List.getElem?_map, List.getElem?_range hi]; rfl
theorem FromDealM.some {p hold m : Nat} {P : Nat → List Int} {L L' : List Sh} (h : FromDealM p hold m P L) (hs : Some_ L L') : FromDealM p hold m P L' := by
  obtain ⟨σ, h1, h2⟩ := hs
  refine ⟨⟨fun k hk => ?_, fun i j hi hj hne => ?_, fun k hk => ?_, fun k hk => ?_⟩, fun i k hi hk => ?_⟩
  · rw [(h1 k hk).2]; exact h.good.holder _ (h1 k hk).1
  · rw [(h1 i hi).2, (h1 j hj).2]; exact h.good.once _ _ (h1 i hi).1 (h1 j hj).1 (h2 i j hi hj hne)
  · rw [(h1 k hk).2]; exact h.good.len _ (h1 k hk).1
  · rw [(h1 k hk).2]; exact h.good.inF _ (h1 k hk).1
  · rw [(h1 k hk).2]; exact h.val i _ hi (h1 k hk).1
/-- What the polynomials give at 0 is the secret. -/
theorem sec_backM {p k m : Nat} {sec rnd : List Int} (hp : 1 ≤ p) (hs : InF p sec) (hm : sec.length = m) : ((List.range m).map fun i => ev (polDM k sec rnd i) 0 % (p : Int)) = sec := by
  apply List.ext_getElem
  · simpa using hm.symm
  · intro i h1 h2
    have hi' : i < m := by simpa using h1
    rw [List.getElem_map, List.getElem_range]
    show (sec.getD i 0 + 0 * _) % (p : Int) = _
    have := hs i (by omega)
    rw [Int.zero_mul, Int.add_zero, Int.emod_eq_of_lt this.1 this.2, List.getD_eq_getElem?_getD, List.getElem?_eq_getElem h2]; rfl
end Go.Proofs.YtjfphobfikadlaaGreatDoor
namespace Go.Proofs.YtjfphobfikadlaaGreatDoor
open Go.RowKit Num

theorem some_drop (L : List Sh) : Some_ L (L.drop 1) := by
  refine ⟨fun k => k + 1, fun k hk => ?_, fun i j _ _ h e => h (by have e' : i + 1 = j + 1 := e; omega)⟩
  have hk' : k < L.length - 1 := by simpa using hk
  refine ⟨by show k + 1 < L.length; omega, ?_⟩
  show shAt (L.drop 1) k = shAt L (k + 1)
  unfold shAt
  rw [List.getD_eq_getElem?_getD, List.getElem?_drop, Nat.add_comm 1 k, ← List.getD_eq_getElem?_getD]
theorem some_take (L : List Sh) : Some_ L (L.take 1) := by
  refine ⟨fun k => k, fun k hk => ?_, fun i j _ _ h e => h e⟩
  have hk' : k < 1 ∧ k < L.length := by rw [List.length_take] at hk; omega
  exact ⟨hk'.2, shAt_take L 1 k hk'.1⟩
/-- Some shares of dealt ones fit their marks. -/
theorem fit_some {p k hold : Nat} {sec rnd : List Int} {L' : List Sh} (hp : 1 ≤ p) (hp2 : p ≤ 1073741824) (hm : sec.length ≤ 1000) (hs : Some_ (dealL p k sec rnd hold) L') : Fit (marksL (dealL p k sec rnd hold)) L' := by
  obtain ⟨σ, h1, h2⟩ := hs
  have hg := (FromDealM.deal (k := k) (hold := hold) (sec := sec) (rnd := rnd) hp).good
  have hd := dealt_lenM p k sec rnd hold
  refine ⟨fun j hj => ?_, fun j hj => ?_, fun j hj => ?_⟩
  · have hsj := h1 j hj
    rw [hsj.2]
    have hlt : σ j < hold := by rw [← hd]; exact hsj.1
    refine ⟨σ j, by rw [deal_atM _ _ _ _ _ _ hlt]; rfl, by unfold marksL; rw [List.length_map, hd]; exact hlt, ?_⟩
    unfold marksL shAt
    rw [List.getD_eq_getElem?_getD, List.getElem?_map, List.getD_eq_getElem?_getD (l := dealL p k sec rnd hold), List.getElem?_eq_getElem hsj.1]; rfl
  · rw [(h1 j hj).2, hg.len _ (h1 j hj).1]; omega
  · rw [(h1 j hj).2]
    intro i hi
    have := hg.inF _ (h1 j hj).1 i hi
    omega
/-- So many of them as are needed give the secret. -/
theorem comb_some {p k hold : Nat} {sec rnd : List Int} {L' : List Sh} (hp : Prm p) (hh : hold < p) (fs : InF p sec) (hs : Some_ (dealL p k sec rnd hold) L') (hn : k + 1 ≤ L'.length) : combL p (k + 1) L' sec.length = sec := by
  have h1 := hp.1
  have hf := (FromDealM.deal (k := k) (hold := hold) (sec := sec) (rnd := rnd) (show 1 ≤ p by omega)).some hs
  rw [comb_back hp hh hf.good (by omega) hn (P := polDM k sec rnd) (fun i hi => by unfold polDM; simp [List.length_take]; omega) (fun i j hi hj => by rw [hf.val i j hi hj, evH_eq _ _ (by omega)])]
  exact sec_backM (p := p) (k := k) (sec := sec) (rnd := rnd) (by omega) fs rfl
/-- The key of the sanity check. -/
def keyA : ByteArray := ⟨#[48, 49, 50, 51, 52, 53, 54, 55, 56, 57, 97, 98, 99, 100, 101, 102]⟩
def secA : List Int := pack3 keyA.data.toList
def rndA : List Int := fillL 500000003 3 6
def LA : List Sh := dealL 500000003 1 secA rndA 3
theorem keyA_size : keyA.size = 16 := rfl
theorem secA_len : secA.length = 6 := by unfold secA; rw [pack3_len]; rfl
theorem pack3_in (l : List UInt8) (p : Nat) (h : 16777216 ≤ p) : InF p (pack3 l) := by
  intro k hk
  rw [pack3_len] at hk
  rw [pack3_get l k hk]
  have h1 := pk3_lt l k
  have h2 : 256 ^ min 3 (l.length - 3 * k) ≤ 256 ^ 3 := Nat.pow_le_pow_right (by decide) (by omega)
  have h3 : (256 : Nat) ^ 3 = 16777216 := by decide
  omega
theorem secA_in : InF 500000003 secA := pack3_in _ _ (by decide)
theorem rndA_in : InF 500000003 rndA := fillL_in _ _ _ (by decide)
theorem rndA_len : rndA.length = 6 := fillL_len _ _ _
theorem prmA : Prm 500000003 := safe_prm (by unfold Num.Safe; decide)
theorem LA_len : LA.length = 3 := dealt_lenM _ _ _ _ _
theorem marksA_len : (marksL LA).length = 3 := by unfold marksL; rw [List.length_map, LA_len]
theorem marks_32 (L : List Sh) : ∀ k, k < (marksL L).length → ((marksL L).getD k ⟨#[]⟩).size = 32 := fun k hk => by
  have hk' : k < L.length := by simpa [marksL] using hk
  have e : (marksL L).getD k ⟨#[]⟩ = markS (L[k]).1 (L[k]).2 := by
    unfold marksL; rw [List.getD_eq_getElem?_getD, List.getElem?_map, List.getElem?_eq_getElem hk']; rfl
  rw [e]; exact markS_size _ _
end Go.Proofs.YtjfphobfikadlaaGreatDoor
