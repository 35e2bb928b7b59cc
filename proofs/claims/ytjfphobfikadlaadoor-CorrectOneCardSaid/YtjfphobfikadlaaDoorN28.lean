/- The contract of Robust: the secret and the holders that lie. -/
import Derived.Test.YtjfphobfikadlaaDoorN27
import Derived.Maps.RangeWalk
import Derived.Deep.RegionHeld3
set_option linter.unusedVariables false
set_option linter.unusedSimpArgs false
namespace Go.Proofs.YtjfphobfikadlaaDoor
open Go.RowKit Num Go.Maps

theorem keys_list {H : Type} {P : Program} {k : TypeId} {R : Value → Option (DataW H × List MemPlace)} {w : World} {b n : Nat} {D : DataW H} (hown : w.ownsMap P k R b n D) (K : Keyed P k) (hk : P.underlying k = some (.int .i64)) :
    ∃ ss : List Int, ss.Nodup ∧ ss.length = Maps.size D ∧ ∀ x, x ∈ ss ↔ Maps.has D (.int .i64 x) = true := by
  obtain ⟨es, hD, hpw, _⟩ := hown.entries K
  obtain ⟨es', hD', hko⟩ := hown.keysOf
  obtain rfl : es = es' := by rw [hD] at hD'; simpa using hD'
  subst hD
  have hint : ∀ p ∈ es, ∃ x, p.1 = .int .i64 x := fun p hp => by obtain ⟨v, hv⟩ := hko p hp; obtain ⟨x, _, hx, _⟩ := Maps.keyOf_i64 hk hv; exact ⟨x, hx⟩
  refine ⟨es.map fun p => Go.intOf p.1, ?_, by rw [List.length_map]; rfl, fun x => ?_⟩
  · refine List.pairwise_map.2 (hpw.imp_of_mem fun {p q} hp' hq' hne e => hne ?_)
    obtain ⟨a, ha⟩ := hint p hp'
    obtain ⟨b, hb⟩ := hint q hq'
    rw [ha, hb] at e ⊢
    exact congrArg _ e
  · rw [Maps.has_eq, List.any_eq_true, List.mem_map]
    constructor
    · rintro ⟨p, hp', rfl⟩
      obtain ⟨a, ha⟩ := hint p hp'
      exact ⟨p, hp', by rw [ha]; simp [Lit.sameKey, Go.intOf]⟩
    · rintro ⟨p, hp', hs⟩
      obtain ⟨a, ha⟩ := hint p hp'
      rw [ha] at hs
      exact ⟨p, hp', by rw [ha]; simpa [Lit.sameKey, Go.intOf] using hs⟩
/-- The secret's first elements. -/
def secL (p : Nat) (F : Nat → List Int) (i : Nat) : List Int := (List.range i).map fun j => Num.ev (F j) 0 % p
theorem secL_len (p : Nat) (F : Nat → List Int) (i : Nat) : (secL p F i).length = i := by simp [secL]
theorem secL_succ (p : Nat) (F : Nat → List Int) (f : List Int) (i : Nat) : secL p (fun j => if j = i then f else F j) (i + 1) = secL p F i ++ [Num.ev f 0 % p] := by
  unfold secL
  rw [List.range_succ, List.map_append]
  congr 1
  · exact List.map_congr_left fun j hj => by dsimp only; rw [if_neg (by have := List.mem_range.1 hj; omega)]
  · simp

set_option maxRecDepth 100000 in
set_option maxHeartbeats 8000000 in
theorem c_Robust (p need hold m : Nat) (v : Value) (l : List Sh) (S : Nat → Prop) (w : World) (hw : BasesOk w) (hp : Prm p) (h2 : p ≤ 1073741824) (n1 : 1 ≤ need) (n2 : need ≤ hold) (n3 : hold ≤ 16) (n4 : hold < p)
    (hv : ShAt w S v l) (hS : ∀ b, S b → b < w.heap.size) (hnl : need ≤ l.length) (hl : l.length ≤ 16) (hm : m ≤ 2048) (ho : GoodSh p hold m l)
    (hsort : ∀ (B n : Nat) (v : Value) (xs : List Int) (W : World), W.ownsRow B 3 1 v n (xs.map (Value.int .i64)) → n ≤ 1000000 → Calls Tryd.prog 34 #[v] W (SortPost B n v xs W)) :
    Calls Tryd.prog 17 #[.agg #[.int .i64 (p : Int), .int .i64 (need : Int), .int .i64 (hold : Int)], v] w (RobPost p need ((l.length - need) / 2) m l w) := by
  have p2 := hp.1
  obtain ⟨i0, hin, hz0, hz1, hz2⟩ := info_parts infoI
  have hmm := @run_makeMap Tryd.prog
  obtain ⟨A, n, c, rfl, hn, hnc, hc⟩ := id hv
  rw [← hn] at hnl hl ⊢
  have hb0 : Below w.heap.size w (w.alloc (.cells #[.int .i64 (p : Int), .int .i64 (need : Int), .int .i64 (hold : Int)] 28)) := (Below.refl _ _).alloc (Nat.le_refl _) _
  have hsv : ∀ W, Below w.heap.size w W → ShAt W S (.slice A n c) l := fun W hb => hv.keep fun b hb' => hb.block b (hS b hb')
  have hsS : ∀ W, Below w.heap.size w W → ∀ b, S b → b < W.heap.size := fun W hb b hb' => Nat.lt_of_lt_of_le (hS b hb') hb.size
  have hck := s_Check p need hold m (.slice A n c) l S _ (hw.alloc (.cells #[.int .i64 (p : Int), .int .i64 (need : Int), .int .i64 (hold : Int)] 28)) hp h2 n1 n2 n3 n4 (hsv _ hb0) (hsS _ hb0) (by omega) (by omega) hm ho
  have kp : Blk (w.alloc (.cells #[.int .i64 (p : Int), .int .i64 (need : Int), .int .i64 (hold : Int)] 28)) w.heap.size 28 #[.int .i64 (p : Int), .int .i64 (need : Int), .int .i64 (hold : Int)] := Blk.new w _ _
  have hroom := fun (W : World) => c_Room p need hold n W (by omega) hnl (by omega)
  have hho := fun (W : World) (hb : Below w.heap.size w W) => s_Holders (.slice A n c) l S W (hsv W hb) (hsS W hb) (by omega)
  have hva := fun (W : World) (hb : Below w.heap.size w W) (i : Nat) (hi : i < m) => c_Values (.slice A n c) l i S W (hsv W hb) (hsS W hb) (by omega) (fun k hk => by rw [ho.len k hk]; exact hi)
  obtain ⟨room, hrm⟩ : ∃ room, (n - need) / 2 = room := ⟨_, rfl⟩
  rw [hrm] at hroom ⊢
  have hrn : need + 2 * room ≤ n := by omega
  have hA : ApartN p (fOf (hsOf l)) (hsOf l).length := ho.apart n4
  have hd := ho.dist
  have fx := ho.hsF n4
  have hlen := hsOf_len l
  have hone := fun (W : World) (vx vy : Value) (S T : Nat → Prop) (i : Nat) (hi : i < m) (hx : IntsAt W S vx (hsOf l)) (hSx : ∀ b, S b → b < W.heap.size) (hy : IntsAt W T vy (colY l i)) (hTy : ∀ b, T b → b < W.heap.size) =>
    c_one p need room vx vy (hsOf l) (colY l i) S T W hp h2 hx hSx hy hTy (by omega) (by rw [colY_len, hlen]) fx (ho.colF i hi) n1 (by omega) hA hd
  rw [hlen, ← hn] at hone
  have hkx : ∀ k, k < n → 1 ≤ (hsOf l).getD k 0 ∧ (hsOf l).getD k 0 ≤ 16 := fun k hk => by
    have e := hsOf_get l k (by omega)
    unfold fOf at e
    rw [e]
    have := ho.holder k (by omega)
    omega
  have hcell0' : ∃ b off Av cv, A = some ⟨b, off, none⟩ ∧ b < w.heap.size ∧ w.cell? ⟨b, off + 1, none⟩ = some (.slice Av m cv) := by
    obtain ⟨b, off, rfl, hSb, hcell⟩ := hc (by omega)
    obtain ⟨u0, _, m3, hu0⟩ := hcell 0 (by omega)
    obtain ⟨Av, nv, cv, rfl, g1, g2, g3⟩ := hu0
    have := ho.len 0 (by omega)
    refine ⟨b, off, Av, cv, rfl, hS b hSb, ?_⟩
    rw [Nat.zero_mul, Nat.add_zero] at m3
    rw [m3, g1, this]
  obtain ⟨b0, off0, Av0, cv0, rfl, hb0lt, hc0⟩ := hcell0'
  have hsx : ∀ k, k < n → (hsOf l).getD k 0 = (shAt l k).1 := fun k hk => hsOf_get l k (by omega)
  have hcy : ∀ i k, k < n → (colY l i).getD k 0 = (shAt l k).2.getD i 0 := fun i k hk => colY_get l i k (by omega)
  have q0n : (0 : Int) < (n : Int) := by omega
  have n16 : n ≤ 16 := hl
  have hm1 : m ≤ 2048 := hm
  have hrb : room ≤ 16 := by omega
  have HCK := Lib.hid hck
  have HB0 := Lib.hid hb0
  have KP := Lib.hid kp
  have HROOM := Lib.hid hroom
  have HHO := Lib.hid hho
  have HVA := Lib.hid hva
  have HONE := Lib.hid hone
  have HKX := Lib.hid hkx
  have HC0 := Lib.hid hc0
  have HLEN := Lib.hid (hlen.trans hn.symm)
  have HSX := Lib.hid hsx
  have HCY := Lib.hid hcy
  have HCOL := Lib.hid (fun i => (colY_len l i).trans hn.symm)
  have HN := Lib.hid hn
  have HSORT := Lib.hid hsort
  clear hsort
  clear hw hv hn hc hp ho hck hb0 kp hroom hho hva hone hkx hc0 hrm hA hd fx hlen hsv hsS hsx hcy hm hl
  go_enter Tryd.func17, Tryd.ntmps17
  go_wp2_with fail
  refine HCK.out.mono ?_
  rintro e w1 ⟨rfl, hb1⟩
  have kp1 := KP.out.below hb1 KP.out.lt
  have hbw1 := HB0.out.trans (hb1.mono HB0.out.size)
  have r0 : w1.cell? ⟨w.heap.size, 0, none⟩ = some (.int .i64 (p : Int)) := kp1.cell 0
  have r1 : w1.cell? ⟨w.heap.size, 1, none⟩ = some (.int .i64 (need : Int)) := kp1.cell 1
  have r2 : w1.cell? ⟨w.heap.size, 2, none⟩ = some (.int .i64 (hold : Int)) := kp1.cell 2
  have KP1 := Lib.hid kp1
  have HB1 := Lib.hid hbw1
  clear kp1 hbw1 hb1
  go_wp2_with fail
  refine (HROOM.out _).mono ?_
  rintro e w2 ⟨rfl, hb2⟩
  have kp2 := KP1.out.below hb2 KP1.out.lt
  have hbw2 := HB1.out.trans (hb2.mono HB1.out.size)
  have hh2 := HHO.out w2 hbw2
  have HH2 := Lib.hid hh2
  have KP2 := Lib.hid kp2
  have HB2 := Lib.hid hbw2
  clear kp2 hbw2 hb2 r0 r1 r2 hh2
  go_wp2_with fail
  refine HH2.out.mono ?_
  rintro e w3 ⟨vh, rfl, hxs, hb3⟩
  obtain ⟨Ah, nh, ch, rfl, x1, x2, x3⟩ := id hxs
  have hnh : nh = n := x1.trans HLEN.out
  subst hnh
  have kp3 := KP2.out.below hb3 KP2.out.lt
  have hbw3 := HB2.out.trans (hb3.mono HB2.out.size)
  have hxs3 : IntsAt w3 (fun b => b < w3.heap.size) (.slice Ah nh ch) (hsOf l) := hxs.mono fun b hb => hb.2
  obtain ⟨bx, offx, rfl, hbx, hcx⟩ := x3 (by omega)
  have hbx3 : bx < w3.heap.size := hbx.2
  have cc0 := (hbw3.cell (p := ⟨b0, off0 + 1, none⟩) hb0lt).trans HC0.out
  have hz3 := hbw3.size
  have KP3 := Lib.hid kp3
  have HB3 := Lib.hid hbw3
  have HXS := Lib.hid hxs3
  have HCX := Lib.hid hcx
  have lkp : w.heap.size < w3.heap.size := kp3.lt
  have gz : b0 < w3.heap.size := by omega
  clear kp3 hbw3 hb3 hxs hxs3 x1 x2 x3 hbx hcx
  go_wp2_with fail
  go_loopw [10, 38] (fun o t wr => ∃ (i : Nat) (F : Nat → List Int) (D : DataW Unit) (cnt : Nat), i ≤ m ∧ t = .int .i64 i ∧ (∀ j, j < i → oneP p need room nh (hsOf l) (colY l j) (F j)) ∧ OwnI wr (w3.heap.size + 1) o (secL p F i) ∧ wr.ownsMap Tryd.prog 3 (plainElem Tryd.prog 4) w3.heap.size cnt D ∧ cnt ≤ 16 * i ∧ (∀ y, Maps.has D (.int .i64 y) = true ↔ Bad p l F i y) ∧ Below w3.heap.size w3 wr ∧ w3.heap.size < wr.heap.size)
    (fun _ t _ => m - (Go.RowKit.intOf t).toNat)
  case atStart => exact ⟨0, fun _ => [], .map [], 0, by omega, rfl, fun j hj => absurd hj (Nat.not_lt_zero j), OwnI.nil _ _, World.ownsMap_made _ _ _ _, by omega, (fun y => ⟨fun h => Bool.noConfusion h, fun ⟨i, k, hi, _⟩ => absurd hi (Nat.not_lt_zero i)⟩), (Below.refl _ _).alloc (Nat.le_refl _) _, by simp⟩
  case round =>
    rename World => wo
    obtain ⟨i, F, D, cnt, him, rfl, hF, hsec, hmap, hcnt, hhas, hbl, hzr⟩ := hrel
    have HF := Lib.hid hF
    have HSEC := Lib.hid hsec
    have HMAP := Lib.hid hmap
    have HHAS := Lib.hid hhas
    have HBL := Lib.hid hbl
    clear hF hsec hmap hhas hbl
    by_cases hlt : i < m
    · have qi : (i : Int) < (m : Int) := by omega
      have hww := HB3.out.trans (HBL.out.mono hz3)
      have hva := HVA.out wo hww i hlt
      have HV := Lib.hid hva
      clear hww hva
      go_wp2_with fail
      refine HV.out.mono ?_
      rintro e w5 ⟨vy, rfl, hys, hb5⟩
      obtain ⟨Ay, ny, cy, rfl, y1, y2, y3⟩ := id hys
      have hny : ny = nh := y1.trans (HCOL.out i)
      subst hny
      obtain ⟨by_, offy, rfl, hby, hcy⟩ := y3 (by omega)
      have hby1 : wo.heap.size ≤ by_ := hby.1
      have hby2 : by_ < w5.heap.size := hby.2
      have hbl5 := HBL.out.trans (hb5.mono (by omega))
      have kp5 := KP3.out.below hbl5 lkp
      have r0 : w5.cell? ⟨w.heap.size, 0, none⟩ = some (.int .i64 (p : Int)) := kp5.cell 0
      have r1 : w5.cell? ⟨w.heap.size, 1, none⟩ = some (.int .i64 (need : Int)) := kp5.cell 1
      have hon := HONE.out w5 (.slice (some ⟨bx, offx, none⟩) ny ch) (.slice (some ⟨by_, offy, none⟩) ny cy) (fun b => b < w3.heap.size) (fun b => wo.heap.size ≤ b ∧ b < w5.heap.size) i hlt (HXS.out.keep fun b hb => hbl5.block b hb) (fun b hb => Nat.lt_of_lt_of_le hb hbl5.size) hys (fun b hb => hb.2)
      have hmap5 := HMAP.out.kept (only_of_below hb5 none) (by simp)
      have hsec5 := HSEC.out.below hb5
      have hz5 := hb5.size
      have HON := Lib.hid hon
      have HM5 := Lib.hid hmap5
      have HS5 := Lib.hid hsec5
      have HB5 := Lib.hid hbl5
      have HCY := Lib.hid hcy
      clear hon hmap5 hsec5 hbl5 hcy kp5 hys y1 y2 y3 hb5 hby HMAP HSEC HBL
      go_wp2_with fail
      refine HON.out.mono ?_
      rintro e w6 ⟨hcase, hb6⟩
      have hbl6 := HB5.out.trans (hb6.mono (by omega))
      have hmap6 := HM5.out.kept (only_of_below hb6 none) (by simp)
      have hsec6 := HS5.out.below hb6
      have hz6 := hb6.size
      have hcy6 : ∀ k, k < ny → w6.cell? ⟨by_, offy + k, none⟩ = some (.int .i64 ((colY l i).getD k 0)) := fun k hk => (hb6.cell (p := ⟨by_, offy + k, none⟩) hby2).trans (HCY.out k hk)
      have HM6 := Lib.hid hmap6
      have HS6 := Lib.hid hsec6
      have HB6 := Lib.hid hbl6
      have HCY6 := Lib.hid hcy6
      clear hmap6 hsec6 hbl6 hcy6 HM5 HS5 HB5 hb6 r0 r1 HCY
      rcases hcase with ⟨f, vf, rfl, hof, hown⟩ | ⟨rfl, hno⟩
      case inr =>
        have HNO := Lib.hid hno
        clear hno
        go_wp2_with fail
        go_ret3
        exact ⟨.inl ⟨rfl, i, hlt, by rw [← HN.out]; exact HNO.out⟩, HB3.out.trans (HB6.out.mono hz3)⟩
      case inl =>
        have HOF := Lib.hid hof
        have HOW := Lib.hid hown
        have ffl : f.length ≤ 16 := by have := hof.2.1; omega
        have ffp : InF p f := InF.of_mem hof.1.1
        have HFF := Lib.hid ffp
        clear hof hown ffp
        go_wp2_with fail
        go_loopw [60] (fun t wi => ∃ (k : Nat) (E : DataW Unit) (cn : Nat), k ≤ ny ∧ t = .int .i64 k ∧ wi.ownsMap Tryd.prog 3 (plainElem Tryd.prog 4) w3.heap.size cn E ∧ cn ≤ 16 * i + k ∧ (∀ y, Maps.has E (.int .i64 y) = true ↔ (Bad p l F i y ∨ BadAt p l f i k y)) ∧ w6.grownBy wi (some w3.heap.size))
          (fun t _ => ny - (Go.RowKit.intOf t).toNat)
        case atStart => exact ⟨0, D, cnt, by omega, rfl, HM6.out, by omega, fun y => (HHAS.out y).trans ⟨Or.inl, fun h => h.elim id (fun ⟨j, hj, _⟩ => absurd hj (Nat.not_lt_zero j))⟩, World.grownBy.refl _ _⟩
        case round =>
          obtain ⟨k, E, cn, hk, rfl, hmap, hcn, hhas, hgr⟩ := hrel
          have hzi := hgr.size
          have hbi : Below w3.heap.size w3 wr := HB6.out.grown hgr (by omega) (fun j hj => by cases hj; exact Nat.le_refl _)
          have howf : OwnI wr w5.heap.size vf f := HOW.out.kept hgr (by
            rcases hv : vf.ownBlock with _ | g
            · exact .inl rfl
            · refine .inr fun e => ?_
              injection e with e
              have := (World.ownsRow.lt HOW.out g hv).1
              omega)
          have kpi := KP3.out.below hbi lkp
          have r0 : wr.cell? ⟨w.heap.size, 0, none⟩ = some (.int .i64 (p : Int)) := kpi.cell 0
          have heval : ∀ (W : World) (x : Int), Below wr.heap.size wr W → 0 ≤ x → x ≤ 16 → Calls Tryd.prog 33 #[.int .i64 (p : Int), vf, .int .i64 x] W (IntB (Num.ev f x % p) W) := fun W x hW h0 h16 =>
            p_Eval p x vf f _ W (by omega) h2 h0 (by omega) (howf.below hW).ints (fun b hb => hb.2) (by omega) HFF.out
          have HEV := Lib.hid heval
          have HMAP := Lib.hid hmap
          have HHA := Lib.hid hhas
          have HGR := Lib.hid hgr
          have HBI := Lib.hid hbi
          have HWF := Lib.hid howf
          clear heval hmap hhas hgr hbi howf kpi
          by_cases hlk : k < ny
          · have hcx : wr.cell? ⟨bx, offx + k, none⟩ = some (.int .i64 ((hsOf l).getD k 0)) := (HBI.out.cell (p := ⟨bx, offx + k, none⟩) hbx3).trans (HCX.out k hlk)
            have hcy := (World.cell?_of_block (a := ⟨by_, offy + k, none⟩) (HGR.out.block by_ (by omega) (by simp; omega))).trans (HCY6.out k hlk)
            have bk := HKX.out k hlk
            obtain ⟨x, hx⟩ : ∃ x, (hsOf l).getD k 0 = x := ⟨_, rfl⟩
            obtain ⟨y, hy⟩ : ∃ y, (colY l i).getD k 0 = y := ⟨_, rfl⟩
            rw [hx] at hcx bk
            rw [hy] at hcy
            have hxs := (HSX.out k hlk).symm.trans hx
            have hys := (HCY.out i k hlk).symm.trans hy
            obtain ⟨z, hz⟩ : ∃ z, Num.ev f x % (p : Int) = z := ⟨_, rfl⟩
            have hev : ∀ W, Below wr.heap.size wr W → Calls Tryd.prog 33 #[.int .i64 (p : Int), vf, .int .i64 x] W (IntB z W) := fun W hW => by
              have := HEV.out W x hW (by omega) (by omega)
              rwa [hz] at this
            have hyes : z ≠ y → ∀ a, BadAt p l f i (k + 1) a ↔ BadAt p l f i k a ∨ a = x := fun hne a => BadAt.yes hxs (by rw [hz, hys]; exact hne)
            have hno : z = y → ∀ a, BadAt p l f i (k + 1) a ↔ BadAt p l f i k a := fun he a => BadAt.no hxs (by rw [hz, hys]; exact he)
            have HE := Lib.hid hev
            have HY := Lib.hid hyes
            have HNO := Lib.hid hno
            have qk : (k : Int) < (ny : Int) := by omega
            have qk0 : (0 : Int) ≤ (k : Int) := by omega
            have hwlt : by_ < wr.heap.size := by omega
            have hwlp : w.heap.size < wr.heap.size := by omega
            clear hx hy hxs hys hz hev hyes hno HEV
            have zy : ((z != y) = true ∧ z ≠ y) ∨ ((z != y) = false ∧ z = y) := by
              by_cases h : z = y
              · exact .inr ⟨by simp [h], h⟩
              · exact .inl ⟨by simp [h], h⟩
            have mk : ∀ W : World, Below wr.heap.size wr W → W.cell? ⟨w.heap.size, 0, none⟩ = some (.int .i64 (p : Int)) ∧ W.cell? ⟨by_, offy + k, none⟩ = some (.int .i64 y) ∧ Hid (Below wr.heap.size wr W) := fun W hW =>
              ⟨(hW.cell (p := ⟨w.heap.size, 0, none⟩) hwlp).trans r0, (hW.cell (p := ⟨by_, offy + k, none⟩) hwlt).trans hcy, Lib.hid hW⟩
            have MK := Lib.hid mk
            clear mk
            rcases zy with ⟨zy, zz⟩ | ⟨zy, zz⟩
            · have HZZ := Lib.hid (HY.out zz)
              clear zz
              go_wp2_with fail
              clear hcx hcy r0
              go_region_held3 (fun W => W.cell? ⟨w.heap.size, 0, none⟩ = some (.int .i64 (p : Int)) ∧ W.cell? ⟨by_, offy + k, none⟩ = some (.int .i64 y) ∧ Hid (Below wr.heap.size wr W))
                (first
                  | exact HP.out
                  | exact MK.out _ (Below.refl _ _).drew)
                (first
                  | (go_at_call 33
                     (with_reducible refine (HE.out _ ((Below.refl wr.heap.size wr).drew)).mono ?_)
                     rintro e wk ⟨rfl, hbk⟩
                     have hbk' : Below wr.heap.size wr wk := ((Below.refl wr.heap.size wr).drew).trans hbk
                     have HB2 := Lib.hid hbk'
                     have HP := Lib.hid (MK.out wk hbk')
                     clear hbk hbk'))
              clear HP
              have hmk := HMAP.out.kept (only_of_below HB2.out none) (by simp)
              have hgk := HGR.out.trans (only_of_below HB2.out (some w3.heap.size))
              have hism := HMAP.out.isMap
              have HM := Lib.hid hmk
              have HG := Lib.hid hgk
              have HI := Lib.hid hism
              clear hmk hgk hism
              go_wp2_with (at_mapUpdate; refine wpList_mapUpdate_own _ rfl _ _ _ 63 rfl 3 4 lawI Tryd.underlying63 (plainElem (H := Unit) Tryd.prog 4) w3.heap.size cn _ rfl HM.out (by unfold maxLen; omega) _ _ _ rfl rfl (keyOf_int_mk Tryd.underlying3 (WalkArith.wf_i64 (by omega))) _ [] (plainElem_bool Tryd.underlying4 true) ?_)
              intro w8 hown8 hgrow8
              have hg8 := HG.out.trans hgrow8
              have hh8 : ∀ a, Maps.has (E.put (.int .i64 x) (.lit (.bool true))) (.int .i64 a) = true ↔ (Bad p l F i a ∨ BadAt p l f i (k + 1) a) := fun a => by
                rw [HZZ.out a]
                by_cases ha : a = x
                · subst ha
                  exact ⟨fun _ => .inr (.inr rfl), fun _ => has_put_same (k := .int .i64 a) HI.out trivial _⟩
                · rw [has_put_other (fun e => ha (by injection e)), HHA.out a]
                  exact ⟨fun h => h.elim .inl (fun h => .inr (.inl h)), fun h => h.elim .inl (fun h => h.elim .inr (fun h => absurd h ha))⟩
              have HM8 := Lib.hid hown8
              have HG8 := Lib.hid hg8
              have HH8 := Lib.hid hh8
              clear hown8 hgrow8 hg8 hh8
              go_wp2_with fail
              go_roundw
              case measure => simp [Go.RowKit.intOf]; omega
              case rel => exact ⟨k + 1, _, cn + 1, by omega, by go_num, HM8.out, by omega, HH8.out, HG8.out⟩
            · have HZZ := Lib.hid (HNO.out zz)
              clear zz
              go_wp2_with fail
              clear hcx hcy r0
              go_region_held3 (fun W => W.cell? ⟨w.heap.size, 0, none⟩ = some (.int .i64 (p : Int)) ∧ W.cell? ⟨by_, offy + k, none⟩ = some (.int .i64 y) ∧ Hid (Below wr.heap.size wr W))
                (first
                  | exact HP.out
                  | exact MK.out _ (Below.refl _ _).drew)
                (first
                  | (go_at_call 33
                     (with_reducible refine (HE.out _ ((Below.refl wr.heap.size wr).drew)).mono ?_)
                     rintro e wk ⟨rfl, hbk⟩
                     have hbk' : Below wr.heap.size wr wk := ((Below.refl wr.heap.size wr).drew).trans hbk
                     have HB2 := Lib.hid hbk'
                     have HP := Lib.hid (MK.out wk hbk')
                     clear hbk hbk'))
              clear HP
              have hmk := HMAP.out.kept (only_of_below HB2.out none) (by simp)
              have hgk := HGR.out.trans (only_of_below HB2.out (some w3.heap.size))
              have hh8 : ∀ a, Maps.has E (.int .i64 a) = true ↔ (Bad p l F i a ∨ BadAt p l f i (k + 1) a) := fun a => by rw [HZZ.out a]; exact HHA.out a
              have HM := Lib.hid hmk
              have HG := Lib.hid hgk
              have HH8 := Lib.hid hh8
              clear hmk hgk hh8
              go_wp2_with fail
              go_roundw
              case measure => simp [Go.RowKit.intOf]; omega
              case rel => exact ⟨k + 1, _, cn, by omega, by go_num, HM.out, by omega, HH8.out, HG.out⟩
          · have hkn : k = ny := by omega
            subst hkn
            have hev := HEV.out wr 0 (Below.refl _ _) (by omega) (by omega)
            obtain ⟨z, hz⟩ : ∃ z, Num.ev f 0 % (p : Int) = z := ⟨_, rfl⟩
            rw [hz] at hev
            have hsi := HS6.out.kept HGR.out (by
              rcases hv : u10.ownBlock with _ | g
              · exact .inl rfl
              · refine .inr fun e => ?_
                injection e with e
                have := (World.ownsRow.lt HS6.out g hv).1
                omega)
            have hst := secL_succ p F f i
            rw [hz] at hst
            have HE := Lib.hid hev
            have HSI := Lib.hid hsi
            have HZ := Lib.hid hz
            have HST := Lib.hid hst
            clear hev hsi hz hst HEV
            go_wp2_with fail
            refine HE.out.mono ?_
            rintro e w8 ⟨rfl, hb8⟩
            have hs8 := HSI.out.below hb8
            have hs8' : w8.ownsRow (w3.heap.size + 1) 3 1 u10 i ((secL p F i).map (Value.int .i64)) := by
              have := hs8
              unfold OwnI at this
              rwa [secL_len] at this
            have hm8 := HMAP.out.kept (only_of_below hb8 none) (by simp)
            have hbl8 := HBI.out.trans (hb8.mono (by omega))
            have hsz8 := hb8.size
            have HS8 := Lib.hid hs8'
            have HM8 := Lib.hid hm8
            have HB8 := Lib.hid hbl8
            clear hs8 hs8' hm8 hbl8 hb8 r0
            go_wp2_with (at_builtin; refine wpList_append_own _ rfl _ _ 22 rfl (w3.heap.size + 1) 3 i0 (.int .i64 0) 1 8 Tryd.underlying22 hin hz0 hz1 hz2 rfl (by decide) _ _ _ rfl (HS8.out.alloc _) ⟨w8.heap.size, 0, none⟩ 1 1 [.int .i64 z] rfl rfl (fun j u hj => by have := cell_one_new w8 (.int .i64 z) 3 j u hj; simpa using this) (ints_oneCell .i64 [_]) (by unfold maxLen; omega) (by omega) (by simp; omega) ?_)
            intro v' w9 hown9 hgrow9 _
            have hg9 := grown_past hgrow9
            have hm9 := HM8.out.kept hg9 (row_ne_low HS8.out (by omega))
            have hul : ∀ g, u10.ownBlock = some g → w3.heap.size ≤ g := fun g hg => by have := (HS8.out.lt g hg).1; omega
            have hb9 := HB8.out.grown hg9 (by omega) hul
            have ho9 : OwnI w9 (w3.heap.size + 1) v' (secL p (fun j => if j = i then f else F j) (i + 1)) := by
              unfold OwnI
              rw [HST.out, List.length_append, secL_len, List.map_append]
              exact hown9
            have hF9 : ∀ j, j < i + 1 → oneP p need room k (hsOf l) (colY l j) ((fun j => if j = i then f else F j) j) := fun j hj => by
              by_cases e : j = i
              · subst e; dsimp only; rw [if_pos rfl]; exact HOF.out
              · dsimp only; rw [if_neg e]; exact HF.out j (by omega)
            have hh9 : ∀ y, Maps.has E (.int .i64 y) = true ↔ Bad p l (fun j => if j = i then f else F j) (i + 1) y := fun y => by
              rw [HHA.out y, Bad.succ, HN.out]
            have hs9 := hg9.size
            have HO9 := Lib.hid ho9
            have HM9 := Lib.hid hm9
            have HB9 := Lib.hid hb9
            have HF9 := Lib.hid hF9
            have HH9 := Lib.hid hh9
            clear hown9 hgrow9 hg9 hm9 hul hb9 ho9 hF9 hh9
            go_wp2_with fail
            go_roundw
            case measure => simp [Go.RowKit.intOf]; omega
            case rel => exact ⟨i + 1, _, E, cn, by omega, by go_num, HF9.out, HO9.out, HM9.out, by omega, HH9.out, HB9.out, by omega⟩
    · have him' : i = m := by omega
      subst him'
      obtain ⟨ss0, hnd, hlen, hmem⟩ := keys_list HMAP.out lawI Tryd.underlying3
      have hbw := HB3.out.trans (HBL.out.mono hz3)
      have hF' : ∀ j, j < i → oneP p need room l.length (hsOf l) (colY l j) (F j) := fun j hj => by rw [← HN.out]; exact HF.out j hj
      have HND := Lib.hid hnd
      have HLN := Lib.hid hlen
      have HMEM := Lib.hid hmem
      have HBW := Lib.hid hbw
      have HF' := Lib.hid hF'
      clear hnd hlen hmem hbw hF'
      by_cases hrs : room < Maps.size D
      · have t1 : decide (room < Maps.size D) = true := decide_eq_true hrs
        have t2 : decide ((room : Int) < ((Maps.size D : Nat) : Int)) = true := decide_eq_true (by omega)
        have HRS := Lib.hid hrs
        clear hrs
        go_wp2_with (at_len; refine wpList_len_own _ rfl _ 63 rfl 3 4 Tryd.underlying63 _ w3.heap.size cnt _ rfl HMAP.out ?_)
        go_wp2_with fail
        go_ret3
        exact ⟨.inr ⟨F, srt ss0, HF'.out, srt_asc HND.out, fun a => by rw [mem_srt, HMEM.out a, HHAS.out a], .inl ⟨by rw [srt_len, HLN.out]; exact HRS.out, rfl⟩⟩, HBW.out⟩
      · have t1 : decide (room < Maps.size D) = false := decide_eq_false hrs
        have t2 : decide ((room : Int) < ((Maps.size D : Nat) : Int)) = false := decide_eq_false (by omega)
        have hsr : Maps.size D ≤ 16 := by omega
        have HRS := Lib.hid hrs
        clear hrs
        go_wp2_with (first
          | (at_len; refine wpList_len_own _ rfl _ 63 rfl 3 4 Tryd.underlying63 _ w3.heap.size cnt _ rfl HMAP.out ?_)
          | (at_range; refine wpList_range_own _ rfl _ 63 rfl 3 4 lawI Tryd.underlying63 _ w3.heap.size cnt _ rfl HMAP.out ?_; intro w0 hrg0 hg0 hs0))
        go_frame
        have hsec0 := HSEC.out.kept hg0 (by cases u10.ownBlock <;> simp)
        have HSEC0 := Lib.hid hsec0
        have hbw0 : Below wo.heap.size wo w0 := (Below.refl wo.heap.size wo).grown hg0 (Nat.le_refl _) (fun j hj => by cases hj)
        have HBW0 := Lib.hid hbw0
        clear hsec0 hbw0 hs0
        go_loopw [18] (fun v wr => ∃ (left : Lit → Bool) (cn : Nat) (ss : List Int), wr.ranges Tryd.prog 3 (plainElem Tryd.prog 4) w3.heap.size wo.heap.size cnt D left cn ∧ ss.length + cn ≤ Maps.size D ∧ OwnI wr wo.heap.size v ss ∧ CollectedI D left ss ∧ Below wo.heap.size wo wr)
          (fun _ wr => wr.rangeLeft w3.heap.size wo.heap.size)
        case atStart => exact ⟨_, _, [], hrg0, by simp, OwnI.nil _ _, CollectedI.start D, HBW0.out⟩
        case round =>
          obtain ⟨left, cn, ss, hrg, hcs, hrow, hC, hnx⟩ := hrel
          have HROW := Lib.hid hrow
          have HC := Lib.hid hC
          have HNX := Lib.hid hnx
          clear hrow hC hnx
          go_wp2_with (first
            | (at_next; refine wpList_next_ranges _ rfl _ rfl 3 lawI (plainElem Tryd.prog 4) encZ id (fun key kl hk => by obtain ⟨x, hx, _⟩ := Maps.keyOf_i64 Tryd.underlying3 hk; exact ⟨x, hx⟩) (fun v _ _ => ⟨v, rfl⟩) w3.heap.size wo.heap.size cnt _ _ _ rfl hrg ?_ ?_))
          · intro hc0 hl0
            have hlen : ss.length ≤ 16 := by omega
            have hle : ss.length ≤ Maps.size D := by omega
            have hr1 : wr.ownsRow wo.heap.size 3 1 u18 ss.length (ss.map (Value.int .i64)) := HROW.out
            have hsr := HSORT.out wo.heap.size ss.length u18 ss wr hr1 (by omega)
            have hul : ∀ g, u18.ownBlock = some g → wo.heap.size ≤ g := fun g hg => (hr1.lt g hg).1
            have HSR := Lib.hid hsr
            have HUL := Lib.hid hul
            have hbw' := HBW.out.trans (HNX.out.mono HBW.out.size)
            have HBW' := Lib.hid hbw'
            have hsecr := HSEC.out.below HNX.out
            have HSECR := Lib.hid hsecr
            have HL0 := Lib.hid hl0
            have HLE := Lib.hid hle
            have hszr := HBW'.out.size
            have hwoz := HBW.out.size
            clear hsr hul hbw' hr1 hrg hc0 hl0 hcs hsecr hle
            go_wp2_with fail
            refine HSR.out.mono ?_
            rintro e w5 ⟨rfl, ho5, hg5⟩
            have hb5 := HBW'.out.grown hg5 hszr (fun g hg => by have := HUL.out g hg; omega)
            have hsec5 := HSECR.out.kept hg5 (by
              rcases hv : u10.ownBlock with _ | g
              · exact .inl rfl
              · refine .inr fun e => ?_
                have h1 := HUL.out g e.symm
                have h2 := (World.ownsRow.lt HSEC.out g hv).2
                omega)
            have HB5 := Lib.hid hb5
            have HS5 := Lib.hid hsec5
            have HO5 := Lib.hid ho5
            clear hb5 hg5 hsec5 ho5
            go_wp2_with fail
            go_ret3
            refine ⟨.inr ⟨F, srt ss, HF'.out, srt_asc HC.out.1, fun a => ?_, .inr ⟨by rw [srt_len]; have := HLE.out; have := HRS.out; omega, _, _, rfl, HS5.out.mono (by omega), ?_⟩⟩, HB5.out⟩
            · rw [mem_srt, HC.out.2 a, HL0.out, ← HHAS.out a]; simp
            · have := own_mono HO5.out (show w.heap.size ≤ wo.heap.size by omega)
              unfold OwnI
              rw [srt_len]
              exact this
          · intro x c kl yd yp w2 cnt2 hkey hlk hv hat hrg2 hlt2 hg2 hs2 hen
            obtain ⟨x', ex, rfl, hwf⟩ := Maps.keyOf_i64 Tryd.underlying3 hkey
            obtain rfl : x = x' := encZ_inj ex
            have hlen : ss.length < 16 := by omega
            have hrow2 := HROW.out.kept hg2 (Or.inr (row_ne_iter HROW.out hrg).symm)
            have hnx2 := HNX.out.grown hg2 HNX.out.size (fun j hj => by cases hj; exact Nat.le_refl _)
            have hC2 := HC.out.step hlk hat
            have HR2 := Lib.hid hrow2
            have HN2 := Lib.hid hnx2
            have HC2 := Lib.hid hC2
            have hs2' := hg2.size
            have hwor := HNX.out.size
            clear hs2 hrow2 hnx2 hC2 hkey hwf hv hlk hat
            go_wp2_with (at_builtin; refine wpList_append_own _ rfl _ _ 22 rfl wo.heap.size 3 i0 (.int .i64 0) 1 8 Tryd.underlying22 hin hz0 hz1 hz2 rfl (by decide) _ _ _ rfl (World.ownsRow.alloc HR2.out _) ⟨w2.heap.size, 0, none⟩ 1 1 [.int .i64 x] rfl rfl (fun j u hj => by have := cell_one_new w2 (.int .i64 x) 3 j u hj; simpa using this) (ints_oneCell .i64 [_]) (by unfold maxLen; omega) (by omega) (by simp; omega) ?_)
            intro v' w9 hown9 hgrow9 _
            have hg9 := grown_past hgrow9
            have hrg9 := hrg2.kept hg9 (row_ne_low HR2.out hzr) (row_ne_iter HR2.out hrg2)
            have hul : ∀ g, u18.ownBlock = some g → wo.heap.size ≤ g := fun g hg => (World.ownsRow.lt HR2.out g hg).1
            have hn9 := HN2.out.grown hg9 HN2.out.size hul
            have ho9 : OwnI w9 wo.heap.size v' (ss ++ [x]) := by
              unfold OwnI
              rw [List.length_append, List.map_append]
              exact hown9
            have HO9 := Lib.hid ho9
            have HN9 := Lib.hid hn9
            clear hown9 hgrow9 hg9 hul hn9 ho9
            go_wp2_with fail
            go_roundw
            case rel => exact ⟨_, cnt2, ss ++ [x], hrg9, by simp; omega, HO9.out, HC2.out, HN9.out⟩
            case measure => rw [hrg9.left_eq, hrg.left_eq]; exact hlt2
end Go.Proofs.YtjfphobfikadlaaDoor
