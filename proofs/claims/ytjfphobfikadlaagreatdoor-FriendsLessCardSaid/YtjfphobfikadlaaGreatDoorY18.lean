/- Contracts: the polynomial that most points have is located. -/
import Derived.Test.YtjfphobfikadlaaGreatDoorY17
import Derived.BigRegion
set_option linter.unusedVariables false
set_option linter.unusedSimpArgs false
namespace Go.Proofs.YtjfphobfikadlaaGreatDoor
open Go.RowKit Num

/-- Rows of numbers, none yet or some. -/
def RowsV (W : World) (B : Nat) (v : Value) (M : List (List Int)) : Prop := ∃ us : List Value, W.ownsRow B 24 1 v M.length us ∧ ∀ k, k < M.length → OwnI W B (us.getD k (.slice none 0 0)) (M.getD k [])
section
variable {W W' : World} {B : Nat} {v v' : Value} {M : List (List Int)}
theorem RowsV.nil (W : World) (B : Nat) : RowsV W B (.slice none 0 0) [] := ⟨[], World.ownsRow_nil _ _ _ _, fun k hk => absurd hk (Nat.not_lt_zero k)⟩
theorem RowsV.below (h : RowsV W B v M) (hb : Below W.heap.size W W') : RowsV W' B v M := by
  obtain ⟨us, h1, h2⟩ := h
  exact ⟨us, h1.kept (only_of_below hb none) (by cases v.ownBlock <;> simp), fun k hk => (h2 k hk).below hb⟩
theorem RowsV.snoc {us : List Value} {u : Value} {L : List Int} (h1 : W.ownsRow B 24 1 v M.length us) (h2 : ∀ k, k < M.length → OwnI W B (us.getD k (.slice none 0 0)) (M.getD k [])) (hu : OwnI W B u L) (hg : W.grownBy W' v.ownBlock) (h3 : W'.ownsRow B 24 1 v' (M.length + 1) (us ++ [u])) : RowsV W' B v' (M ++ [L]) := by
  have hul : us.length = M.length := by have := h1.1; omega
  have hne : ∀ {x : Value} {K : List Int}, OwnI W B x K → OwnI W' B x K := fun {x K} hx => hx.kept hg (own_ne hx h1 (by decide))
  refine ⟨us ++ [u], by rw [List.length_append]; exact h3, fun k hk => ?_⟩
  rw [List.length_append] at hk
  have hk' : k < M.length + 1 := hk
  rcases Nat.lt_or_ge k M.length with h | h
  · rw [List.getD_eq_getElem?_getD, List.getElem?_append_left (by omega), ← List.getD_eq_getElem?_getD, List.getD_eq_getElem?_getD (l := M ++ [L]), List.getElem?_append_left h, ← List.getD_eq_getElem?_getD]
    exact hne (h2 k h)
  · have e : k = M.length := by omega
    subst e
    rw [List.getD_eq_getElem?_getD, List.getElem?_append_right (by omega), List.getD_eq_getElem?_getD (l := M ++ [L]), List.getElem?_append_right (Nat.le_refl _), hul, Nat.sub_self]
    exact hne hu
theorem RowsV.far {eb : Nat} {cs : Array Value} (h : RowsV W B v M) (hb : Blk W eb 185 cs) (j : Nat) (x : Value) : RowsV (W.setCell ⟨eb, j, none⟩ x) B v M := by
  obtain ⟨us, h1, h2⟩ := h
  have hg : W.grownBy (W.setCell ⟨eb, j, none⟩ x) (some eb) := only_setCell (World.grownBy.refl W _) (p := ⟨eb, j, none⟩) (.inl rfl) x
  exact ⟨us, h1.kept hg (.inr (own_blk_ne h1 hb (by decide))), fun k hk => (h2 k hk).kept hg (.inr (own_blk_ne (h2 k hk) hb (by decide)))⟩
theorem RowsV.rows (h : RowsV W B v M) (h0 : 0 < M.length) : ∃ rb cap, v = .slice (some ⟨rb, 0, none⟩) M.length cap ∧ RowsI W B (fun _ => True) rb M.length cap M := by
  obtain ⟨us, h1, h2⟩ := h
  obtain ⟨g, cap, hv, _, _⟩ := h1.form h0
  subst hv
  exact ⟨g, cap, rfl, us, h1, rfl, fun k hk => ⟨h2 k hk, fun _ _ => trivial⟩⟩
end
theorem OwnI.empty (w : World) (c : Nat) (hc : c ≤ 1000000) : OwnI (w.alloc (.cells (madeCells #[Value.int .i64 0] c) 3)) w.heap.size (.slice (some ⟨w.heap.size, 0, none⟩) 0 c) [] :=
  ⟨rfl, .inr ⟨w.heap.size, c, _, rfl, Nat.le_refl _, heap_alloc_new w _, Nat.zero_le _, by simp only [maxLen]; omega, by rw [← Array.length_toList, toList_madeCells_one]; simp, rfl⟩⟩
theorem IntsAt.drop' {w : World} {S : Nat → Prop} {A : Option Addr} {n c : Nat} {xs : List Int} (h : IntsAt w S (.slice A n c) xs) (m : Nat) (hm : m ≤ n) : IntsAt w S (.slice (subA A c m 1) (n - m) (c - m)) (xs.drop m) := by
  obtain ⟨A', n', c', hv, h2, h3, h4⟩ := h
  injection hv with e1 e2 e3
  subst e1 e2 e3
  refine ⟨_, _, _, rfl, by rw [List.length_drop]; omega, by omega, fun hm' => ?_⟩
  obtain ⟨b, off, rfl, hS, hc⟩ := h4 (by omega)
  refine ⟨b, off + m, ?_, hS, fun k hk => ?_⟩
  · unfold subA
    rw [if_neg (by omega)]
    show some ((⟨b, off, none⟩ : Addr).add (m * 1)) = _
    unfold Addr.add
    split <;> simp_all
  · rw [show off + m + k = off + (m + k) by omega, hc (m + k) (by omega), List.getD_eq_getElem?_getD, List.getD_eq_getElem?_getD, List.getElem?_drop]
theorem degN_one : ∀ E : List Int, degN (E ++ [1]) = E.length + 1 := by
  intro E
  induction E with
  | nil => rfl
  | cons c E ih =>
    show (if 0 < degN (E ++ [1]) then degN (E ++ [1]) + 1 else if c = 0 then 0 else 1) = _
    rw [if_pos (by omega), ih]; rfl
theorem InF.one' {p : Nat} {E : List Int} (hp : 2 ≤ p) (h : InF p E) : InF p (E ++ [1]) := by
  apply InF.of_mem
  intro x hx
  rcases List.mem_append.1 hx with hx | hx
  · exact h.mem x hx
  · rw [List.mem_singleton.1 hx]; omega
def LocPost (p need lies n : Nat) (X Y : List Int) (w : World) (e : Ending) (w' : World) : Prop :=
  ∃ (F : List Int) (v : Value) (b : Bool), e = .returned (.tuple #[v, .bool b]) ∧ OwnI w' w.heap.size v F ∧ Num.Can p F ∧ (b = true → F.length ≤ need) ∧
    (∀ G, Num.Can p G → G.length ≤ need → n ≤ agr p G (fOf X) (fOf Y) n + lies → b = true ∧ G = F) ∧ Below w.heap.size w w'

set_option maxRecDepth 100000 in
set_option maxHeartbeats 4000000 in
theorem c_locate (p need lies : Nat) (vx vy : Value) (X Y : List Int) (S T : Nat → Prop) (w : World) (hp : Prm p) (h2 : p ≤ 1073741824)
    (hx : IntsAt w S vx X) (hS : ∀ b, S b → b < w.heap.size) (hy : IntsAt w T vy Y) (hT : ∀ b, T b → b < w.heap.size) (lx : X.length ≤ 900) (ly : Y.length = X.length) (fx : InF p X) (fy : InF p Y)
    (hn1 : 1 ≤ need) (hnl : need + 2 * lies ≤ X.length) (hA : ApartN p (fOf X) X.length) :
    Calls Tryz.prog 135 #[.int .i64 (p : Int), .int .i64 (need : Int), .int .i64 (lies : Int), vx, vy] w (LocPost p need lies X.length X Y w) := by
  obtain ⟨i0, hi, hz0, hz1, hz2⟩ := info_parts infoI
  obtain ⟨j0, hj, hy0, hy1, hy2⟩ := info_parts infoR
  have hp1 : 1 ≤ p := by have := hp.1; omega
  have hp2 : 2 ≤ p := hp.1
  obtain ⟨A, n, ca, rfl, hn, hnc, hcc⟩ := id hx
  obtain ⟨B, m, cb, rfl, hm, hmc, hcd⟩ := id hy
  have hmn : m = n := by omega
  subst hmn
  rw [← hn] at lx hnl hA ⊢
  have w1 : IntKind.i64.wrap ((need : Int) + (lies : Int)) = (need : Int) + (lies : Int) := IntWalk.i64_in _ ⟨by omega, by omega⟩
  have w2 : IntKind.i64.wrap ((need : Int) + (lies : Int) + (lies : Int)) = (need : Int) + (lies : Int) + (lies : Int) := IntWalk.i64_in _ ⟨by omega, by omega⟩
  have w3 : IntKind.i64.wrap ((need : Int) + (lies : Int) + (lies : Int) + 1) = (need : Int) + (lies : Int) + (lies : Int) + 1 := IntWalk.i64_in _ ⟨by omega, by omega⟩
  have hmk := fun (W : World) => run_make (P := Tryz.prog) W 24 3 i0 (.int .i64 0) Tryz.underlying24 hi hz0 .i64 .i64 0 ((need : Int) + (lies : Int) + (lies : Int) + 1) (by omega) (by omega) (by rw [hz2]; omega) (by omega)
  have htn : ((need : Int) + (lies : Int) + (lies : Int) + 1).toNat = need + lies + lies + 1 := by omega
  simp only [htn, hz1, Nat.mul_one, Int.toNat_zero] at hmk
  have HX := Lib.hid hx
  have HY := Lib.hid hy
  have HN := Lib.hid hn
  have HM := Lib.hid hm
  have HA := Lib.hid hA
  have HFX := Lib.hid fx
  have HFY := Lib.hid fy
  clear hx hy hn hm hA hcc hcd ly fx fy htn
  go_enter Tryz.func135, Tryz.ntmps135
  go_wp2_with fail
  have hb0 : Blk (w.alloc (.cells #[.int .i64 (p : Int), .slice none 0 0] 185)) w.heap.size 185 #[.int .i64 (p : Int), .slice none 0 0] := Blk.new _ _ _
  have hbw : Below w.heap.size w (w.alloc (.cells #[.int .i64 (p : Int), .slice none 0 0] 185)) := (Below.refl _ _).alloc (Nat.le_refl _) _
  have HB0 := Lib.hid hb0
  have HBW := Lib.hid hbw
  clear hb0 hbw
  go_loopw [31] (fun t wr => ∃ (i : Nat) (v : Value), i ≤ m ∧ t = .int .i64 i ∧ Blk wr w.heap.size 185 #[.int .i64 (p : Int), v] ∧ RowsV wr w.heap.size v (rowsM p (need + lies) lies X Y i) ∧ Below w.heap.size w wr) (fun t _ => m - (intOf t).toNat)
  case atStart => exact ⟨0, _, by omega, rfl, HB0.out, RowsV.nil _ _, HBW.out⟩
  case round =>
    obtain ⟨i, v, him, rfl, hbk, hrv, hbl⟩ := hrel
    have HBK := Lib.hid hbk
    have HRV := Lib.hid hrv
    have HBL := Lib.hid hbl
    by_cases hlt : i < m
    · have hir := HX.out.keep (w' := wr) fun q hq => hbl.block q (hS q hq)
      obtain ⟨A', n', c', hv', e2, e3, hcs⟩ := hir
      injection hv' with v1 v2 v3
      subst v1 v2 v3
      obtain ⟨ba, oa, rfl, hSa, hca⟩ := hcs (by omega)
      have cka := hca i hlt
      have hab := hS ba hSa
      have fai := HFX.out i (by have := HN.out; omega)
      have fbi := HFY.out i (by have := HM.out; omega)
      have hms := rowsM_succ p (need + lies) lies X Y i
      have hml := rowsM_len p (need + lies) lies X Y i
      obtain ⟨B', m', c'', hv', e2', e3', hcs'⟩ := id HY.out
      injection hv' with v1 v2 v3
      subst v1 v2 v3
      obtain ⟨bb, ob, rfl, hTb, hcb⟩ := hcs' (by omega)
      have ckb := hcb i hlt
      have hbb := hT bb hTb
      obtain ⟨x, hxx⟩ : ∃ x, X.getD i 0 = x := ⟨_, rfl⟩
      obtain ⟨y, hyy⟩ : ∃ y, Y.getD i 0 = y := ⟨_, rfl⟩
      rw [hxx] at cka fai hms
      rw [hyy] at ckb fbi hms
      have qi : (i : Int) < (m : Int) := by omega
      have qi0 : (0 : Int) ≤ (i : Int) := by omega
      obtain ⟨wo, hwo⟩ : ∃ wo, wo = wr := ⟨wr, rfl⟩
      subst hwo
      have hE := OwnI.empty wo (need + lies + lies + 1) (by omega)
      have hbo : Below wo.heap.size wo (wo.alloc (.cells (madeCells #[Value.int .i64 0] (need + lies + lies + 1)) 3)) := (Below.refl _ _).alloc (Nat.le_refl _) _
      have HE := Lib.hid hE
      have HBO := Lib.hid hbo
      have HMS := Lib.hid hms
      have HML := Lib.hid hml
      clear hE hbo hms hml hca hcs hcs' hcb hxx hyy e2 e2' hbk hrv hbl
      go_wp2_with fail
      generalize (wo.alloc (.cells (madeCells #[Value.int .i64 0] (need + lies + lies + 1)) 3)) = wa at *
      go_loopw [42, 16, 17] (fun t r s wr => ∃ (k : Nat), k ≤ need + lies ∧ t = .int .i64 k ∧ s = .int .i64 (pwr p 1 x k) ∧ OwnI wr wo.heap.size r (rowA p x k) ∧ Below wo.heap.size wo wr) (fun t _ _ _ => need + lies - (intOf t).toNat)
      case atStart => exact ⟨0, by omega, rfl, rfl, HE.out, HBO.out⟩
      case round =>
        obtain ⟨k, hk, rfl, rfl, ho, hb⟩ := hrel
        by_cases hlt2 : k < need + lies
        · have qk : (k : Int) < (need : Int) + (lies : Int) := by omega
          have qk0 : (0 : Int) ≤ (k : Int) := by omega
          have hsuc := rowA_succ p x k
          have hst : pwr p 1 x (k + 1) = pwr p 1 x k * x % p := rfl
          have hpb := pwr_bd (x := x) hp1 (show (0 : Int) ≤ 1 by omega) (show (1 : Int) < p by omega) k
          have hlen := rowA_len p x k
          generalize pwr p 1 x k = s at *
          have HO := Lib.hid ho
          have HB := Lib.hid hb
          have HSUC := Lib.hid hsuc
          have HST := Lib.hid hst
          have HLEN := Lib.hid hlen
          clear ho hb hsuc hst hlen
          go_wp2_with (at_builtin; refine wpList_append_own _ rfl _ _ 24 rfl wo.heap.size 3 i0 (.int .i64 0) 1 8 Tryz.underlying24 hi hz0 hz1 hz2 rfl (by decide) _ _ _ rfl (HO.out.alloc _) ⟨wr.heap.size, 0, none⟩ 1 1 [.int .i64 s] rfl rfl (fun j u hj => by have := cell_one_new wr (.int .i64 s) 3 j u hj; simpa using this) (ints_oneCell .i64 [_]) (by rw [HLEN.out]; unfold maxLen; omega) (by rw [HLEN.out]; omega) (by have := HB.out.size; simp; omega) ?_)
          intro v' w5 hown5 hgrow5 _
          have hg5 := grown_past hgrow5
          have hb5 := HB.out.grown hg5 HB.out.size (fun g hg => (World.ownsRow.lt HO.out g hg).1)
          have ho5 : OwnI w5 wo.heap.size v' (rowA p x (k + 1)) := by
            rw [HSUC.out]
            unfold OwnI
            rw [List.map_append, List.length_append]
            exact hown5
          have HO5 := Lib.hid ho5
          have HB5 := Lib.hid hb5
          clear hown5 hgrow5 hg5 hb5 ho5
          go_wp2_with fail
          refine (f_MulZ p s x _ hp1 (by omega) (by omega) (by omega) (by omega) (by omega)).mono ?_
          rintro e w' ⟨rfl, rfl⟩
          rw [← HST.out]
          go_wp2_with fail
          go_roundw
          case measure => simp [intOf]; omega
          case rel => exact ⟨k + 1, by omega, by go_num, rfl, HO5.out, HB5.out⟩
        · have hk' : k = need + lies := by omega
          subst hk'
          have cky := ((HBL.out.trans (hb.mono HBL.out.size)).cell (p := ⟨bb, ob + i, none⟩) hbb).trans ckb
          have ho2 : OwnI wr wo.heap.size u16 (rowA p x (need + lies) ++ rowB p x y 0) := by simpa [rowB] using ho
          have HO := Lib.hid ho2
          have HB := Lib.hid hb
          clear ho ho2 hb ckb
          go_wp2_with fail
          obtain ⟨wi, hwi⟩ : ∃ wi, wi = wr := ⟨wr, rfl⟩
          subst hwi
          go_loopw [58, 16, 17] (fun t r s wr => ∃ (k : Nat), k ≤ lies ∧ t = .int .i64 k ∧ s = .int .i64 (pwr p y x k) ∧ OwnI wr wo.heap.size r (rowA p x (need + lies) ++ rowB p x y k) ∧ Below wo.heap.size wo wr) (fun t _ _ _ => lies - (intOf t).toNat)
          case atStart => exact ⟨0, by omega, rfl, rfl, HO.out, HB.out⟩
          case round =>
            clear cky
            obtain ⟨k, hk, rfl, rfl, ho, hb⟩ := hrel
            have hpb := pwr_bd (x := x) hp1 fbi.1 fbi.2 k
            have hlen : (rowA p x (need + lies) ++ rowB p x y k).length = need + lies + k := by rw [List.length_append, rowA_len, rowB_len]
            by_cases hlt3 : k < lies
            · have qk : (k : Int) < (lies : Int) := by omega
              have qk0 : (0 : Int) ≤ (k : Int) := by omega
              have hsuc := rowB_succ p x y k
              have hst : pwr p y x (k + 1) = pwr p y x k * x % p := rfl
              generalize pwr p y x k = s at *
              obtain ⟨ng, hng⟩ : ∃ ng, (0 - s) % (p : Int) = ng := ⟨_, rfl⟩
              have hsub := fun W => f_Sub p 0 s W hp1 (by omega) (by omega) (by omega) (by omega) (by omega)
              simp only [hng] at hsub hsuc
              have HO := Lib.hid ho
              have HB := Lib.hid hb
              have HSUC := Lib.hid hsuc
              have HST := Lib.hid hst
              have HLEN := Lib.hid hlen
              have HSUB := Lib.hid hsub
              clear ho hb hsuc hst hlen hsub hng
              go_wp2_with fail
              refine (HSUB.out _).mono ?_
              rintro e w' ⟨rfl, rfl⟩
              go_wp2_with (at_builtin; refine wpList_append_own _ rfl _ _ 24 rfl wo.heap.size 3 i0 (.int .i64 0) 1 8 Tryz.underlying24 hi hz0 hz1 hz2 rfl (by decide) _ _ _ rfl (HO.out.alloc _) ⟨wr.heap.size, 0, none⟩ 1 1 [.int .i64 ng] rfl rfl (fun j u hj => by have := cell_one_new wr (.int .i64 ng) 3 j u hj; simpa using this) (ints_oneCell .i64 [_]) (by rw [HLEN.out]; unfold maxLen; omega) (by rw [HLEN.out]; omega) (by have := HB.out.size; simp; omega) ?_)
              intro v' w5 hown5 hgrow5 _
              have hg5 := grown_past hgrow5
              have hb5 := HB.out.grown hg5 HB.out.size (fun g hg => (World.ownsRow.lt HO.out g hg).1)
              have ho5 : OwnI w5 wo.heap.size v' (rowA p x (need + lies) ++ rowB p x y (k + 1)) := by
                rw [HSUC.out]
                unfold OwnI
                simpa [Nat.add_assoc] using hown5
              have HO5 := Lib.hid ho5
              have HB5 := Lib.hid hb5
              clear hown5 hgrow5 hg5 hb5 ho5
              go_wp2_with fail
              refine (f_MulZ p s x _ hp1 (by omega) (by omega) (by omega) (by omega) (by omega)).mono ?_
              rintro e w' ⟨rfl, rfl⟩
              rw [← HST.out]
              go_wp2_with fail
              refine ⟨?_, ?measure⟩
              (repeat apply Exists.intro)
              refine ⟨?rel, rfl⟩
              case measure => simp [intOf]; omega
              case rel => exact ⟨k + 1, by omega, by go_num, rfl, HO5.out, HB5.out⟩
            · have hk' : k = lies := by omega
              subst hk'
              have hrl : rowL p (need + k) k x y = (rowA p x (need + k) ++ rowB p x y k) ++ [pwr p y x k] := rfl
              generalize pwr p y x k = s at *
              obtain ⟨us, hus1, hus2⟩ := HRV.out
              rw [HML.out] at hus1 hus2
              have hsz1 := HBL.out.size
              have hsz2 := hb.size
              have hbk0 := HBK.out.below hb (by have := HBK.out.lt; omega)
              have c1 : wr.cell? ⟨w.heap.size, 1, none⟩ = some v := hbk0.cell 1
              have hs1 : w.heap.size < wr.heap.size := hbk0.lt
              have hbD : Below wo.heap.size wo wr := hb
              have hoD : wr.ownsRow wo.heap.size 3 1 u16 (need + k + k) ((rowA p x (need + k) ++ rowB p x y k).map (Value.int .i64)) := by
                have e := ho
                unfold OwnI at e
                rwa [hlen] at e
              have HO := Lib.hid hoD
              have HB := Lib.hid hbD
              have HRLL := Lib.hid hrl
              have HLEN := Lib.hid hlen
              have HU1 := Lib.hid hus1
              have HU2 := Lib.hid hus2
              clear ho hb hrl hlen hus1 hus2 hbk0 hbD hoD
              go_wp2_with fail
              have hvn : ∀ g, v.ownBlock = some g → w.heap.size ≤ g ∧ g < wr.heap.size := fun g hg => by have := World.ownsRow.lt HU1.out g hg; have := HB.out.size; omega
              have HVN := Lib.hid hvn
              clear hvn
              go_region_law (first
                | (refine step_append_lies _ (by rfl) _ _ _ (by rfl) wo.heap.size 3 i0 _ 1 8 Tryz.underlying24 hi hz0 hz1 hz2 rfl (by omega) u16 (need + k + k) _ (by rfl) (HO.out.alloc _).drew ⟨wr.heap.size, 0, none⟩ 1 1 [.int .i64 s] (by rfl) (by rfl) (cell_one_new _ _ _) (ints_oneCell .i64 [_]) (by omega) (by simp only [maxLen]; omega) (by omega) (by have := HB.out.size; simp; omega) (wr.heap.size + 1) (by simp) ?_
                   intro g1 cap1 w4 hown4 hgrow4 hat4 hlt4
                   have hg4 : wr.grownBy w4 u16.ownBlock := ⟨hgrow4.os, hgrow4.tape, hgrow4.output, Nat.le_trans (by simp) hgrow4.size, fun i hi hn => (hgrow4.block i (by simp; omega) hn).trans (Below.heap_alloc wr _ i hi)⟩
                   have hb4 := HB.out.grown hg4 HB.out.size (fun g hg => (World.ownsRow.lt HO.out g hg).1)
                   have hbk4 := HBK.out.below hb4 (by have := HBK.out.lt; omega)
                   have c4 : w4.cell? ⟨w.heap.size, 1, none⟩ = some v := hbk4.cell 1
                   have hs4 : w.heap.size < w4.heap.size := hbk4.lt
                   have ho4 : OwnI w4 wo.heap.size (.slice (some ⟨g1, 0, none⟩) (need + k + k + 1) cap1) (rowL p (need + k) k x y) := by
                     rw [HRLL.out]
                     unfold OwnI
                     rw [List.map_append, List.length_append, HLEN.out]
                     exact hown4
                   have HO4 := Lib.hid ho4
                   have HB4 := Lib.hid hb4
                   have HBK4 := Lib.hid hbk4
                   have h14 := HU1.out.kept (only_of_below hb4 none) (by cases v.ownBlock <;> simp)
                   have H14 := Lib.hid h14
                   clear hown4 hgrow4 hat4 hg4 ho4 hb4 hbk4 h14)
                | (refine step_append_lies _ (by rfl) _ _ _ (by rfl) w.heap.size 24 j0 _ 1 24 Tryz.underlying157 hj hy0 hy1 hy2 rfl (by omega) v i us (by rfl) (H14.out.alloc _) ⟨w4.heap.size, 0, none⟩ 1 1 [.slice (some ⟨g1, 0, none⟩) (need + k + k + 1) cap1] (by rfl) (by rfl) (cell_one_new _ _ _) (fun u hu => by rw [List.mem_singleton.1 hu]; rfl) (by omega) (by simp only [maxLen]; omega) (by omega) (by simp; omega) (w4.heap.size + 1) (by simp) ?_
                   intro g2 cap2 w5 hown5 hgrow5 hat5 hlt5
                   have hg5 := grown_past hgrow5
                   have hbk5 : Blk w5 w.heap.size 185 #[.int .i64 (p : Int), v] := HBK4.out.grown hg5 (Ne.symm (own_blk_ne H14.out HBK4.out (by decide)))
                   have c5 : w5.cell? ⟨w.heap.size, 1, none⟩ = some v := hbk5.cell 1
                   have f5 : w5.frozen? ⟨w.heap.size, 1, none⟩ = false := hbk5.frozen 1
                   have HG5 := Lib.hid hg5
                   have HOWN5 := Lib.hid hown5
                   have HBK5 := Lib.hid hbk5
                   clear hown5 hgrow5 hat5 hg5 hbk5))
              all_goals
                have hu2 : ∀ q, q < (rowsM p (need + k) k X Y i).length → OwnI w4 w.heap.size (us.getD q (.slice none 0 0)) ((rowsM p (need + k) k X Y i).getD q []) := fun q hq => (HU2.out q (by rw [← HML.out]; exact hq)).below HB4.out
                have hrv5 : RowsV w5 w.heap.size (.slice (some ⟨g2, 0, none⟩) (i + 1) cap2) (rowsM p (need + k) k X Y i ++ [rowL p (need + k) k x y]) :=
                  RowsV.snoc (us := us) (u := .slice (some ⟨g1, 0, none⟩) (need + k + k + 1) cap1) (by rw [HML.out]; exact H14.out) hu2 (HO4.out.mono hsz1) HG5.out (by rw [HML.out]; exact HOWN5.out)
                rw [← HMS.out] at hrv5
                have hrv6 := hrv5.far HBK5.out 1 (.slice (some ⟨g2, 0, none⟩) (i + 1) cap2)
                have hb6 : Below w.heap.size w (w5.setCell ⟨w.heap.size, 1, none⟩ (.slice (some ⟨g2, 0, none⟩) (i + 1) cap2)) :=
                  ((HBL.out.trans (HB4.out.mono hsz1)).grown HG5.out (by omega) (fun g hg => (HVN.out g hg).1)).setCell (p := ⟨w.heap.size, 1, none⟩) (Nat.le_refl _) _
                have hbk6 : Blk (w5.setCell ⟨w.heap.size, 1, none⟩ (.slice (some ⟨g2, 0, none⟩) (i + 1) cap2)) w.heap.size 185 #[.int .i64 (p : Int), .slice (some ⟨g2, 0, none⟩) (i + 1) cap2] := HBK5.out.set_ 1 _
                have HRV6 := Lib.hid hrv6
                have HB6 := Lib.hid hb6
                have HBK6 := Lib.hid hbk6
                clear hu2 hrv5 hrv6 hb6 hbk6
                go_wp2_with fail
                go_roundw
                case measure => simp [intOf]; omega
                case rel => exact ⟨i + 1, _, by omega, by go_num, HBK6.out, HRV6.out, HB6.out⟩
    · have him2 : i = m := by omega
      subst him2
      have hi0 : 0 < i := by omega
      have hml := rowsM_len p (need + lies) lies X Y i
      obtain ⟨rb, cap, rfl, hri⟩ := HRV.out.rows (by omega)
      rw [hml] at hri hbk
      have hsv := c_solve p w.heap.size w.heap.size rb i cap (need + lies + lies) (rowsM p (need + lies) lies X Y i) wr hp h2 (by omega) (by omega) hbk hri HBL.out.size (fun k hk => by
        rw [rowsM_get _ _ _ _ _ _ _ hk]
        exact ⟨rowL_len _ _ _ _ _, rowL_bd _ _ _ _ hp2 (HFY.out k (by have := HM.out; omega)).1 (HFY.out k (by have := HM.out; omega)).2⟩)
      rw [show ((need + lies + lies : Nat) : Int) = (need : Int) + (lies : Int) + (lies : Int) by omega] at hsv
      have hrb := hri.lt
      have HSV := Lib.hid hsv
      clear hsv hri hbk hrv hbl HBK HRV hml
      go_wp2_with fail
      refine HSV.out.mono ?_
      rintro e w5 hpost
      rcases hpost with ⟨rfl, hno, hg⟩ | ⟨vL, L, rfl, hoL, hlL, hfL, hsol, hg⟩
      · have hb5 := HBL.out.grown hg HBL.out.size (fun g hg' => by injection hg' with e; omega)
        have HNO := Lib.hid hno
        have HB5 := Lib.hid hb5
        clear hno hb5 hg
        go_wp2_with fail
        go_ret2
        exact ⟨[], .slice none 0 0, false, rfl, OwnI.nil _ _, ⟨by simp, rfl⟩, by simp, fun G _ hG hgr => absurd hgr (rows_none HNO.out G hG), HB5.out⟩
      · have hb5 := HBL.out.grown hg HBL.out.size (fun g hg' => by injection hg' with e; omega)
        rcases hoL.form with ⟨_, h0⟩ | ⟨gl, cl, rfl, hcl⟩
        · rw [h0] at hlL; simp at hlL; omega
        rw [hlL] at hcl ⊢
        have hii : IntsAt w5 (fun b => b < w5.heap.size) (.slice (some ⟨gl, 0, none⟩) (need + lies + lies) cl) L := by
          have := hoL.ints.mono (T := fun b => b < w5.heap.size) (fun b hb => hb.2)
          rwa [hlL] at this
        obtain ⟨ab, hab0⟩ : ∃ ab, need + lies = ab := ⟨_, rfl⟩
        rw [hab0] at hii hcl hlL ⊢
        have hab : (need : Int) + (lies : Int) = (ab : Int) := by omega
        have hsl1 := fun (W : World) => run_slice_hi (P := Tryz.prog) W 24 3 i0 Tryz.underlying24 hi (some ⟨gl, 0, none⟩) (ab + lies) cl ab (by omega) (ab : Int) rfl
        have hsl2 := fun (W : World) => run_slice_lo (P := Tryz.prog) W 24 3 i0 1 Tryz.underlying24 hi hz1 (some ⟨gl, 0, none⟩) (ab + lies) cl ab (by omega) hcl (ab : Int) rfl
        have hdr := hii.drop' ab (by omega)
        have htk := hii.take ab (by omega)
        obtain ⟨A2, hA2⟩ : ∃ A2, subA (some ⟨gl, 0, none⟩) cl ab 1 = A2 := ⟨_, rfl⟩
        obtain ⟨d2, hd2⟩ : ∃ d2, ab + lies - ab = d2 := ⟨_, rfl⟩
        obtain ⟨c2, hc2⟩ : ∃ c2, cl - ab = c2 := ⟨_, rfl⟩
        simp only [hA2, hd2, hc2] at hsl2
        rw [hA2, hd2, hc2] at hdr
        have hld : (L.drop ab).length = lies := by rw [List.length_drop]; omega
        have hlt : (L.take ab).length = ab := by rw [List.length_take]; omega
        have hfd : InF p (L.drop ab) := InF.of_mem fun x hx => hfL.mem x (List.mem_of_mem_drop hx)
        have hft : InF p (L.take ab) := InF.of_mem fun x hx => hfL.mem x (List.mem_of_mem_take hx)
        have hcln : ∀ W, Below w5.heap.size w5 W → Calls Tryz.prog 148 #[.slice A2 d2 c2] W (OwnPost (L.drop ab) W) := fun W hb =>
          s_Clone _ _ (fun b => b < w5.heap.size) W (hdr.keep fun b hb' => hb.block b hb') (fun b hb' => by have := hb.size; have : b < w5.heap.size := hb'; omega) (by omega)
        have hdiv : ∀ (W : World) (vb : Value) (Tb : Nat → Prop), Below w5.heap.size w5 W → IntsAt W Tb vb (L.drop ab ++ [1]) → (∀ b, Tb b → b < W.heap.size) →
            Calls Tryz.prog 171 #[.int .i64 (p : Int), .slice (some ⟨gl, 0, none⟩) ab cl, vb] W (DivPost p (L.take ab) (L.drop ab ++ [1]) lies W) := fun W vb Tb hb h1 h3 =>
          p_Divide p _ vb (L.take ab) (L.drop ab ++ [1]) lies (fun b => b < w5.heap.size) Tb W hp h2 (htk.keep fun b hb' => hb.block b hb') (fun b hb' => by have := hb.size; have : b < w5.heap.size := hb'; omega) h1 h3 (by omega) (by rw [List.length_append, hld]; show lies + 1 ≤ _; omega) (by rw [degN_one, hld]) (by omega) (by omega) hft (InF.one' hp2 hfd)
        have HCLN := Lib.hid hcln
        have HDIV := Lib.hid hdiv
        have HLD := Lib.hid hld
        have HLT := Lib.hid hlt
        have HSOL := Lib.hid hsol
        have HLL := Lib.hid hlL
        have HB5 := Lib.hid hb5
        have HAB := Lib.hid hab0
        clear hcln hdiv hld hlt hsol hlL hb5 hii hdr htk hfd hft hfL hoL hA2 hd2 hc2 hg HSV
        go_wp2_with fail
        go_region_law (first
          | (refine step_append_lies _ (by rfl) _ _ _ (by rfl) w5.heap.size 3 i0 _ 1 8 Tryz.underlying24 hi hz0 hz1 hz2 rfl (by omega) vC lies _ (by rfl) (by first | exact HOC.out.alloc _ | exact (HOC.out.alloc _).drew) ⟨wk.heap.size, 0, none⟩ 1 1 [.int .i64 1] (by rfl) (by rfl) (cell_one_new _ _ _) (ints_oneCell .i64 [_]) (by omega) (by simp only [maxLen]; omega) (by omega) (by have := HBC.out.size; simp; omega) (wk.heap.size + 1) (by simp) ?_
             intro g1 cap1 w6 hown6 hgrow6 hat6 hlt6
             have hg6 : wk.grownBy w6 vC.ownBlock := ⟨hgrow6.os, hgrow6.tape, hgrow6.output, Nat.le_trans (by simp) hgrow6.size, fun i hi hn => (hgrow6.block i (by simp; omega) hn).trans (Below.heap_alloc wk _ i hi)⟩
             have hb6 := HBC.out.grown hg6 HBC.out.size (fun g hg => (World.ownsRow.lt HOC.out g hg).1)
             have hi6 : IntsAt w6 (fun b => w5.heap.size ≤ b ∧ b < w6.heap.size) (.slice (some ⟨g1, 0, none⟩) (lies + 1) cap1) (L.drop ab ++ [1]) := IntsAt.of_own (n := lies + 1) (by rw [List.map_append]; exact hown6)
             have HI6 := Lib.hid hi6
             have HB6 := Lib.hid hb6
             clear hown6 hgrow6 hat6 hg6 hi6 hb6)
          | (go_simp; go_at_call 148; (refine (HCLN.out _ (by first | exact Below.refl _ _ | exact (Below.refl _ _).drew)).mono ?_)
             rintro e wk ⟨vC, rfl, hoC, hbC⟩
             have hbK : Below w5.heap.size w5 wk := by first | exact hbC | exact (Below.refl _ _).drew.trans hbC
             have hoK : wk.ownsRow w5.heap.size 3 1 vC lies ((L.drop ab).map (Value.int .i64)) := by
               have e := hoC
               unfold OwnI at e
               rwa [HLD.out] at e
             have HOC := Lib.hid hoK
             have HBC := Lib.hid hbK
             clear hoC hbC hbK hoK)
          | (refine step_append_lies _ (by rfl) _ _ _ (by rfl) w5.heap.size 3 i0 _ 1 8 Tryz.underlying24 hi hz0 hz1 hz2 rfl (by omega) vC lies _ (by rfl) (by first | exact HOC.out | exact HOC.out.drew) ⟨w5.heap.size, 0, none⟩ 1 1 [.int .i64 1] (by rfl) (by rfl) (fun j u hj => by
               have hj0 : j = 0 := by
                 cases j with
                 | zero => rfl
                 | succ j => simp at hj
               subst hj0
               simp at hj
               subst hj
               exact HCC.out) (ints_oneCell .i64 [_]) (by omega) (by simp only [maxLen]; omega) (by omega) (by exact HBC.out.size) wk.heap.size (by rfl) ?_
             intro g1 cap1 w6 hown6 hgrow6 hat6 hlt6
             have hg6 : wk.grownBy w6 vC.ownBlock := ⟨hgrow6.os, hgrow6.tape, hgrow6.output, hgrow6.size, hgrow6.block⟩
             have hb6 := HBC.out.grown hg6 HBC.out.size (fun g hg => (World.ownsRow.lt HOC.out g hg).1)
             have hi6 : IntsAt w6 (fun b => w5.heap.size ≤ b ∧ b < w6.heap.size) (.slice (some ⟨g1, 0, none⟩) (lies + 1) cap1) (L.drop ab ++ [1]) := IntsAt.of_own (n := lies + 1) (by rw [List.map_append]; exact hown6)
             have HI6 := Lib.hid hi6
             have HB6 := Lib.hid hb6
             clear hown6 hgrow6 hat6 hg6 hi6 hb6)
          | (go_simp; go_at_call 148; (refine (HCLN.out _ (((Below.refl _ _).alloc (Nat.le_refl _) _).drew)).mono ?_)
             rintro e wk ⟨vC, rfl, hoC, hbC⟩
             have hbK : Below w5.heap.size w5 wk := (((Below.refl w5.heap.size w5).alloc (Nat.le_refl _) (.cells #[.int .i64 1] 3)).drew).trans (hbC.mono (show w5.heap.size ≤ (w5.alloc (.cells #[.int .i64 1] 3)).heap.size by simp))
             have hcc : wk.cell? ⟨w5.heap.size, 0, none⟩ = some (.int .i64 1) := (hbC.cell (p := ⟨w5.heap.size, 0, none⟩) (show w5.heap.size < (w5.alloc (.cells #[.int .i64 1] 3)).heap.size by simp)).trans (show (w5.alloc (.cells #[.int .i64 1] 3)).cell? ⟨w5.heap.size, 0, none⟩ = _ by rw [World.cell?_alloc_new]; rfl)
             have hoK : wk.ownsRow w5.heap.size 3 1 vC lies ((L.drop ab).map (Value.int .i64)) := by
               have e := OwnI.mono (B' := w5.heap.size) hoC (show w5.heap.size ≤ (w5.alloc (.cells #[.int .i64 1] 3)).heap.size by simp)
               unfold OwnI at e
               rwa [HLD.out] at e
             have HOC := Lib.hid hoK
             have HBC := Lib.hid hbK
             have HCC := Lib.hid hcc
             clear hoC hbC hbK hoK hcc)
          | (go_simp; go_at_call 171; (refine (HDIV.out _ _ _ (by first | exact HB6.out | exact HB6.out.drew) HI6.out (fun b hb => hb.2)).mono ?_)
             rintro e w7 ⟨Q, R, vq, vr, cQ, cR, lQ, lR, hcg, rfl, hoQ, hoR, hb7⟩
             have hb8 : Below w5.heap.size w5 w7 := by first | exact HB6.out.trans (hb7.mono HB6.out.size) | exact HB6.out.drew.trans (hb7.mono HB6.out.size)))
        all_goals
          have hq : Q.length ≤ need := by have := HLT.out; have := HAB.out; omega
          have key : ∀ G, Num.Can p G → G.length ≤ need → i ≤ agr p G (fOf X) (fOf Y) i + lies → Q = G ∧ R = [] := by
            have e := HAB.out
            have hll := HLL.out
            have hso := HSOL.out
            subst e
            exact fun G cG lG hG => rows_quot hp hnl HA.out hll hso cQ cR lR hq hcg G lG cG hG
          have hb9 : Below w.heap.size w w7 := HB5.out.trans (hb8.mono HB5.out.size)
          have hoQ9 : OwnI w7 w.heap.size vq Q := hoQ.mono (by have := HB5.out.size; have := HB6.out.size; first | omega | (show w.heap.size ≤ w6.heap.size; omega))
          obtain ⟨Aq, nq, cq, rfl, hnq⟩ : ∃ A n c, vq = .slice A n c ∧ n = Q.length := by
            rcases hoQ.form with ⟨h, h0⟩ | ⟨g, c, h, _⟩
            · exact ⟨none, 0, 0, h, by rw [h0]; rfl⟩
            · exact ⟨_, _, _, h, rfl⟩
          obtain ⟨Ar, nr, cr, rfl, hnr⟩ : ∃ A n c, vr = .slice A n c ∧ n = R.length := by
            rcases hoR.form with ⟨h, h0⟩ | ⟨g, c, h, _⟩
            · exact ⟨none, 0, 0, h, by rw [h0]; rfl⟩
            · exact ⟨_, _, _, h, rfl⟩
          have hnn : nq ≤ need := by omega
          have HNN := Lib.hid hnn
          have HKEY := Lib.hid key
          have HB9 := Lib.hid hb9
          have HOQ9 := Lib.hid hoQ9
          have HNR := Lib.hid hnr
          have HQ := Lib.hid hq
          have HCQ := Lib.hid cQ
          clear key hb9 hoQ9 hnr hq cQ cR lQ lR hcg hoQ hoR hb7 hb8 hnq HB6 HI6 hnn
          by_cases hr0 : nr = 0
          · subst hr0
            go_wp2_with fail
            go_ret2
            exact ⟨Q, _, _, rfl, HOQ9.out, HCQ.out, fun _ => HQ.out, fun G cG lG hG => ⟨decide_eq_true HNN.out, (HKEY.out G cG lG hG).1.symm⟩, HB9.out⟩
          · have hd2 : ((nr : Int) == 0) = false := by simp only [beq_eq_false_iff_ne]; omega
            have HR0 := Lib.hid hr0
            clear hr0
            go_wp2_with fail
            go_ret2
            exact ⟨Q, _, false, rfl, HOQ9.out, HCQ.out, by simp, fun G cG lG hG => absurd (by rw [HNR.out, (HKEY.out G cG lG hG).2]; rfl) HR0.out, HB9.out⟩
end Go.Proofs.YtjfphobfikadlaaGreatDoor
