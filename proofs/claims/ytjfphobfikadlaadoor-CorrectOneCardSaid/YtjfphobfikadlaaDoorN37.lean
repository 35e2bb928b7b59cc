/- The contract of the reference's elimination. -/
import Derived.Test.YtjfphobfikadlaaDoorN36
import Derived.BigRegion
set_option linter.unusedVariables false
set_option linter.unusedSimpArgs false
namespace Go.Proofs.YtjfphobfikadlaaDoor
open Go.RowKit Num

def RSolPost (p B u : Nat) (M : List (List Int)) (w : World) (e : Ending) (w' : World) : Prop :=
  (e = .returned (.tuple #[.slice none 0 0, .bool false]) ∧ (∀ v, ¬ Sol p u M v) ∧ Below B w w') ∨
  (∃ v L, e = .returned (.tuple #[v, .bool true]) ∧ OwnI w' w.heap.size v L ∧ L.length = u ∧ InF p L ∧ Sol p u M (fun j => L.getD j 0) ∧ Below B w w')
theorem mulI_bd {x y : Int} (x0 : 0 ≤ x) (x1 : x < 1073741824) (y0 : 0 ≤ y) (y1 : y < 1073741824) : 0 ≤ x * y ∧ x * y < 1152921504606846976 := by
  refine ⟨Int.mul_nonneg x0 y0, ?_⟩
  have h1 : x * y ≤ 1073741823 * 1073741823 := Int.mul_le_mul (by omega) (by omega) y0 (by omega)
  omega
/-- What a round keeps. -/
structure RSt (B rb n : Nat) (w : World) (l : Value) (lead : List Nat) (R : List (List Int)) (gs cs : Nat → Nat) (W : World) : Prop where
  rows : RowsG W B rb n R gs cs
  own : OwnI W w.heap.size l (lead.map Int.ofNat)
  old : Below B w W
  lt : ∀ k, k < n → gs k < w.heap.size ∧ B ≤ gs k
section
variable {B rb n : Nat} {w W W' : World} {l : Value} {lead : List Nat} {R : List (List Int)} {gs cs : Nat → Nat}
theorem RSt.far (h : RSt B rb n w l lead R gs cs W) (hl : rb < w.heap.size) : (l.ownBlock = none ∨ l.ownBlock ≠ some rb) ∧ ∀ k, k < n → (l.ownBlock = none ∨ l.ownBlock ≠ some (gs k)) := by
  have key : ∀ b, b < w.heap.size → (l.ownBlock = none ∨ l.ownBlock ≠ some b) := fun b hb => by
    rcases hv : l.ownBlock with _ | g
    · exact .inl rfl
    · refine .inr fun e => ?_
      injection e with e
      have := (World.ownsRow.lt h.own g hv).1
      omega
  exact ⟨key rb hl, fun k hk => key _ (h.lt k hk).1⟩
theorem RSt.drew (h : RSt B rb n w l lead R gs cs W) : RSt B rb n w l lead R gs cs W.drew := ⟨h.rows.drew, h.own, h.old.drew, h.lt⟩
theorem RSt.put (h : RSt B rb n w l lead R gs cs W) (hl : rb < w.heap.size) {k : Nat} (hk : k < n) (j : Nat) (y : Int) : RSt B rb n w l lead (R.set k ((R.getD k []).set j y)) gs cs (W.setCell ⟨gs k, j, none⟩ (.int .i64 y)) :=
  ⟨h.rows.put hk j y, h.own.kept (only_setCell (World.grownBy.refl W _) (p := ⟨gs k, j, none⟩) (.inl rfl) _) ((h.far hl).2 k hk), h.old.setCell (p := ⟨gs k, j, none⟩) (h.lt k hk).2 _, h.lt⟩
theorem RSt.swap (h : RSt B rb n w l lead R gs cs W) (hl : rb < w.heap.size) {a b : Nat} (ha : a < n) (hb : b < n) :
    ∃ gs' cs', RSt B rb n w l lead ((R.set a (R.getD b [])).set b (R.getD a [])) gs' cs' ((W.setCell ⟨rb, a, none⟩ (.slice (some ⟨gs b, 0, none⟩) (R.getD b []).length (cs b))).setCell ⟨rb, b, none⟩ (.slice (some ⟨gs a, 0, none⟩) (R.getD a []).length (cs a))) := by
  refine ⟨_, _, h.rows.swap ha hb, h.own.kept (only_setCell (only_setCell (World.grownBy.refl W _) (p := ⟨rb, a, none⟩) (.inl rfl) _) (p := ⟨rb, b, none⟩) (.inl rfl) _) (h.far hl).1, (h.old.setCell (p := ⟨rb, a, none⟩) h.rows.base _).setCell (p := ⟨rb, b, none⟩) h.rows.base _, fun k hk => ?_⟩
  by_cases e1 : k = b
  · rw [if_pos e1]; exact h.lt a ha
  · rw [if_neg e1]
    by_cases e2 : k = a
    · rw [if_pos e2]; exact h.lt b hb
    · rw [if_neg e2]; exact h.lt k hk
theorem cell_store {a b : Addr} {u v : Value} (ha : W.cell? a = some u) (hb : W.cell? b = some v) (x : Value) : ∃ y, (W.setCell a x).cell? b = some y := by
  by_cases e : a = b
  · subst e; exact ⟨x, World.cell?_setCell_same _ _ _ ha⟩
  · exact ⟨v, (World.cell?_setCell_other _ _ _ _ e).trans hb⟩
end
set_option maxRecDepth 100000 in
set_option maxHeartbeats 8000000 in
theorem r_solve (p B rb n cap u : Nat) (M : List (List Int)) (gs0 cs0 : Nat → Nat) (w : World) (hp : Prm p) (h2 : p ≤ 1073741824) (n0 : 0 < n) (hn : n ≤ 1000) (hnc : n ≤ cap) (hu : u ≤ 900)
    (hR : RowsG w B rb n M gs0 cs0) (hM : ∀ k, k < n → (M.getD k []).length = u + 1 ∧ InF p (M.getD k [])) :
    Calls Tryd.prog 40 #[.int .i64 (p : Int), .slice (some ⟨rb, 0, none⟩) n cap, .int .i64 (u : Int)] w (RSolPost p B u M w) := by
  obtain ⟨i0, hi, hz0, hz1, hz2⟩ := info_parts infoI
  obtain ⟨j0, hj, hy0, hy1, hy2⟩ := info_parts infoR
  have hmx : Tryd.prog.follows .mixedOrders = true := by kernel_rfl
  have p2 := hp.1
  have hp1 : 1 ≤ p := by omega
  have hrbl := hR.lt
  have hml := hR.len
  have hstart : Elim (p : Int) u 0 M M [] := Elim.start fun k hk => ⟨(hM k (by omega)).1, (hM k (by omega)).2.mem⟩
  have hst0 : RSt B rb n w (.slice none 0 0) [] M gs0 cs0 w := ⟨hR, OwnI.nil _ _, Below.refl _ _, fun k hk => by have := (hR.own k hk).lt; omega⟩
  have HEL0 := Lib.hid hstart
  have HST0 := Lib.hid hst0
  have HML := Lib.hid hml
  have HPR := Lib.hid hp
  clear hR hM hml hstart hst0 hp
  go_enter Tryd.func40, Tryd.ntmps40
  go_wp2_with fail
  go_loopw [8, 9, 10] (fun l r t wr => ∃ (cc : Nat) (R : List (List Int)) (lead : List Nat) (gs cs : Nat → Nat), cc ≤ u ∧ t = .int .i64 (cc : Int) ∧ r = .int .i64 ((lead.length : Nat) : Int) ∧ Elim (p : Int) u cc M R lead ∧ RSt B rb n w l lead R gs cs wr) (fun _ _ t _ => u - (intOf t).toNat)
  case atStart => exact ⟨0, M, [], gs0, cs0, by omega, rfl, rfl, HEL0.out, HST0.out⟩
  case round =>
    rename World => wo
    obtain ⟨cc, R, lead, gs, cs, hcu, rfl, rfl, hel, hst⟩ := hrel
    obtain ⟨pl, hpl⟩ : ∃ pl, lead.length = pl := ⟨_, rfl⟩
    rw [hpl]
    have hrn : R.length = n := hst.rows.len
    have hpln : pl ≤ n := by have := hel.leads; omega
    have hrl1 : ∀ k, k < n → (R.getD k []).length = u + 1 ∧ InF p (R.getD k []) := fun k hk => ⟨(hel.elems k (by omega)).1, InF.of_mem (hel.elems k (by omega)).2⟩
    have HEL := Lib.hid hel
    have HST := Lib.hid hst
    have HPL := Lib.hid hpl
    have HRN := Lib.hid hrn
    have HRL := Lib.hid hrl1
    clear hel hst hpl hrn hrl1
    by_cases hgo : cc < u ∧ pl < n
    · obtain ⟨hcl, hln⟩ := hgo
      have t1 : decide ((cc : Int) < (u : Int)) = true := decide_eq_true (by omega)
      have t1' : decide (cc < u) = true := decide_eq_true hcl
      have t2 : decide ((pl : Int) < (n : Int)) = true := decide_eq_true (by omega)
      have t2' : decide (pl < n) = true := decide_eq_true hln
      go_wp2_with fail
      clear t1 t1' t2 t2'
      go_loopw [11] (fun a wr => ∃ k : Nat, pl ≤ k ∧ k ≤ n ∧ a = .int .i64 (k : Int) ∧ (∀ j, pl ≤ j → j < k → (R.getD j []).getD cc 0 = 0) ∧ wo = wr) (fun a _ => n - (intOf a).toNat)
      case atStart => exact ⟨pl, Nat.le_refl _, hpln, rfl, fun j h1 h3 => absurd h3 (by omega), rfl⟩
      case round =>
        obtain ⟨k, hk1, hk2, rfl, hz, rfl⟩ := hrel
        have HZ := Lib.hid hz
        clear hz
        by_cases hkn : k < n
        · have t3 : decide ((k : Int) < (n : Int)) = true := decide_eq_true (by omega)
          have t3' : decide (k < n) = true := decide_eq_true hkn
          have t4 : ((k : Int) == (n : Int)) = false := by simp; omega
          have t4' : (k == n) = false := by simp; omega
          have hck := HST.out.rows.cell k hkn
          have hrk := (HRL.out k hkn).1
          rw [hrk] at hck
          have hok := HST.out.rows.own k hkn
          have hcy := hok.cell cc (by rw [hrk]; omega)
          have hyb := (HRL.out k hkn).2 cc (by rw [hrk]; omega)
          obtain ⟨y, hy⟩ : ∃ y, (R.getD k []).getD cc 0 = y := ⟨_, rfl⟩
          rw [hy] at hcy hyb
          have HY := Lib.hid hy
          have qc : (cc : Int) < (u : Int) + 1 := by omega
          have qc0 : (0 : Int) ≤ (cc : Int) := by omega
          have qk0 : (0 : Int) ≤ (k : Int) := by omega
          have qk : (k : Int) < (n : Int) := by omega
          clear hrk hok hy
          by_cases hy0 : y = 0
          · have t5 : (y == 0) = true := by simpa using hy0
            have HY0 := Lib.hid hy0
            clear hy0
            go_wp2_with fail
            go_roundw
            case measure => simp [intOf]; omega
            case rel => exact ⟨k + 1, by omega, by omega, by go_num, (fun j h1 h3 => by
              rcases Nat.lt_or_ge j k with h | h
              · exact HZ.out j h1 h
              · rw [show j = k by omega, HY.out]; exact HY0.out), by first | rfl | trivial⟩
          · have t5 : (y == 0) = false := by simpa using hy0
            have HY0 := Lib.hid hy0
            have hcp := HST.out.rows.cell pl hln
            rw [(HRL.out pl hln).1] at hcp
            have hfp := HST.out.rows.live pl
            have hfk := HST.out.rows.live k
            have qp0 : (0 : Int) ≤ (pl : Int) := by omega
            have qp : (pl : Int) < (n : Int) := by omega
            obtain ⟨x0, x0e⟩ := cell_store hcp hck (.slice (some ⟨gs k, 0, none⟩) (u + 1) (cs k))
            obtain ⟨x1, x1e⟩ := cell_store hck hcp (.slice (some ⟨gs pl, 0, none⟩) (u + 1) (cs pl))
            clear hy0
            go_wp2_with fail
            go_region
            all_goals
              obtain ⟨gs1, cs1, hsw⟩ := HST.out.swap hrbl hln hkn
              rw [(HRL.out k hkn).1, (HRL.out pl hln).1] at hsw
              replace hsw := hsw.drew
              generalize ((wo.setCell ⟨rb, pl, none⟩ (.slice (some ⟨gs k, 0, none⟩) (u + 1) (cs k))).setCell ⟨rb, k, none⟩ (.slice (some ⟨gs pl, 0, none⟩) (u + 1) (cs pl))).drew = w5 at *
              obtain ⟨R1, hR1⟩ : ∃ R1, (R.set pl (R.getD k [])).set k (R.getD pl []) = R1 := ⟨_, rfl⟩
              have hr1l : R1.length = n := by rw [← hR1]; simp; exact HRN.out
              have hr1p : R1.getD pl [] = R.getD k [] := by
                have a1 := HRN.out
                rw [← hR1, getD_setR _ _ _ _ _ (by simp; omega), getD_setR _ _ _ _ _ (by omega)]
                by_cases e : pl = k
                · subst e; rw [if_pos rfl]
                · rw [if_neg e, if_pos rfl]
              obtain ⟨Rk, hRk⟩ : ∃ Rk, R.getD k [] = Rk := ⟨_, rfl⟩
              have hRkl : Rk.length = u + 1 := by rw [← hRk]; exact (HRL.out k hkn).1
              have hRkF : InF p Rk := by rw [← hRk]; exact (HRL.out k hkn).2
              have hRky : Rk.getD cc 0 = y := by rw [← hRk]; exact HY.out
              have helr := elim_round HPR.out HEL.out hcl (k := k) (by rw [HPL.out]; exact hk1) (by rw [HRN.out]; exact hkn) (by rw [HY.out]; exact HY0.out)
              have hpe := pivM_elems (c := cc) hp1 HRN.out hln hkn HRL.out
              have hpn : (pivM p R pl k cc).length = n := by rw [pivM_len]; exact HRN.out
              have hrd : rndM p R lead.length k cc = clrM p pl cc (pivM p R pl k cc) n := by unfold rndM; rw [HPL.out, HRN.out]
              rw [hrd] at helr
              have hpiv : pivM p R pl k cc = R1.set pl (linL p (invP p y) [] Rk) := by unfold pivM; rw [hRk, hRky, ← hR1, hRk]
              obtain ⟨P, hP⟩ : ∃ P, pivM p R pl k cc = P := ⟨_, rfl⟩
              rw [hP] at helr hpe hpn hpiv
              rw [hR1] at hsw
              rw [hRk] at hr1p
              have hinv := r_Inverse p y w5 p2 h2 (by have := HY0.out; omega) hyb.2
              have hvb := invP_bd p y p2
              obtain ⟨v, hv⟩ : ∃ v, invP p y = v := ⟨_, rfl⟩
              rw [hv] at hinv hvb hpiv
              obtain ⟨SC, hSC⟩ : ∃ SC, linL p v [] Rk = SC := ⟨_, rfl⟩
              have hscl : SC.length = u + 1 := by rw [← hSC, linL_len, hRkl]; simp
              have hscg : ∀ j, j < u + 1 → SC.getD j 0 = Rk.getD j 0 * v % (p : Int) := fun j hj => by
                rw [← hSC, linL_get _ _ _ _ _ (by rw [hRkl]; simp; omega)]
                unfold linC
                rw [getD_none [] j (Nat.zero_le _), Int.zero_add, Int.emod_emod_of_dvd _ (Int.dvd_refl _), Int.mul_comm]
              rw [hSC] at hpiv
              have hc1 := hsw.rows.cell pl hln
              rw [hr1p, hRkl] at hc1
              have ho1 := hsw.rows.own pl hln
              rw [hr1p] at ho1
              have hcv := ho1.cell cc (by rw [hRkl]; omega)
              rw [hRky] at hcv
              have hset0 : R1.set pl (mixL Rk SC 0) = R1 := by rw [mixL_zero, ← hr1p]; exact set_same R1 pl
              have HSW := Lib.hid hsw
              have HR1L := Lib.hid hr1l
              have HRKL := Lib.hid hRkl
              have HRKF := Lib.hid hRkF
              have HELR := Lib.hid helr
              have HPE := Lib.hid hpe
              have HPN := Lib.hid hpn
              have HPIV := Lib.hid hpiv
              have HINV := Lib.hid hinv
              have HSCL := Lib.hid hscl
              have HSCG := Lib.hid hscg
              have HSET0 := Lib.hid hset0
              clear hsw hr1l hRkl hRkF helr hpe hpn hpiv hinv hscl hscg hset0 hRky hRk hR1 hrd hP hSC hv hr1p ho1 hck hcp hcy hfp hfk x0e x1e
              go_wp2_with fail
              refine HINV.out.mono ?_
              rintro e w' ⟨rfl, rfl⟩
              clear hcv
              go_wp2_with fail
              clear hc1
              go_loopw [86] (fun t wr => ∃ j : Nat, j ≤ u + 1 ∧ t = .int .i64 (j : Int) ∧ RSt B rb n w u8 lead (R1.set pl (mixL Rk SC j)) gs1 cs1 wr) (fun t _ => u + 1 - (intOf t).toNat)
              case atStart => exact ⟨0, by omega, rfl, by rw [HSET0.out]; exact HSW.out⟩
              case round =>
                rename World => wp
                obtain ⟨j, hju, rfl, hs⟩ := hrel
                have HS := Lib.hid hs
                clear hs
                by_cases hlj : j < u + 1
                · have gp : (R1.set pl (mixL Rk SC j)).getD pl [] = mixL Rk SC j := by rw [getD_setR _ _ _ _ _ (by rw [HR1L.out]; exact hln), if_pos rfl]
                  have hcp := HS.out.rows.cell pl hln
                  have hop := HS.out.rows.own pl hln
                  rw [gp, mixL_len, HRKL.out] at hcp
                  rw [gp] at hop
                  have hcx := hop.cell j (by rw [mixL_len, HRKL.out]; exact hlj)
                  have hfx := hop.frozen j
                  rw [mixL_get _ _ _ _ (by rw [HRKL.out]; exact hlj), if_neg (by omega)] at hcx
                  have hxb := HRKF.out j (by rw [HRKL.out]; exact hlj)
                  have hsg := HSCG.out j hlj
                  have hput := HS.out.put hrbl hln j (SC.getD j 0)
                  rw [gp, List.set_set, mixL_set _ _ _ (by rw [HRKL.out]; exact hlj)] at hput
                  obtain ⟨x, hx⟩ : ∃ x, Rk.getD j 0 = x := ⟨_, rfl⟩
                  rw [hx] at hcx hxb hsg
                  obtain ⟨z, hz'⟩ : ∃ z, SC.getD j 0 = z := ⟨_, rfl⟩
                  rw [hz'] at hsg hput
                  have hmb := mulI_bd hxb.1 (show x < 1073741824 by omega) hvb.1 (show v < 1073741824 by omega)
                  have wm : IntKind.i64.wrap (x * v) = x * v := IntWalk.i64_in _ ⟨by omega, by omega⟩
                  have tm : (x * v).tmod (p : Int) = z := by rw [Int.tmod_eq_emod_of_nonneg hmb.1]; exact hsg.symm
                  have em : (x * v) % (p : Int) = z := hsg.symm
                  have hp0 : ¬ p = 0 := by omega
                  have hp0' : ¬ (p : Int) = 0 := by omega
                  have qj : (j : Int) < (u : Int) + 1 := by omega
                  have qj0 : (0 : Int) ≤ (j : Int) := by omega
                  have qp0 : (0 : Int) ≤ (pl : Int) := by omega
                  have qp : (pl : Int) < (n : Int) := by omega
                  have HPUT := Lib.hid hput.drew
                  clear gp hop hsg hput hx hz'
                  go_wp2_with fail
                  go_region
                  all_goals
                    clear hcp hcx hfx wm tm em
                    go_wp2_with fail
                    go_roundw
                    case measure => simp [intOf]; omega
                    case rel => exact ⟨j + 1, by omega, by go_num, HPUT.out⟩
                · have hju' : j = u + 1 := by omega
                  subst hju'
                  have hsp : RSt B rb n w u8 lead P gs1 cs1 wp := by
                    have := HS.out
                    rw [← HRKL.out, mixL_all _ _ (by rw [HSCL.out, HRKL.out]), ← HPIV.out] at this
                    exact this
                  have HSP := Lib.hid hsp
                  clear hsp
                  go_wp2_with fail
                  go_loopw [109] (fun t wr => ∃ i : Nat, i ≤ n ∧ t = .int .i64 (i : Int) ∧ RSt B rb n w u8 lead (clrM p pl cc P i) gs1 cs1 wr) (fun t _ => n - (intOf t).toNat)
                  case atStart => exact ⟨0, by omega, rfl, HSP.out⟩
                  case round =>
                    rename World => wq
                    obtain ⟨i, hin, rfl, hs⟩ := hrel
                    have HS2 := Lib.hid hs
                    clear hs
                    by_cases hli : i < n
                    · obtain ⟨C, hC⟩ : ∃ C, clrM p pl cc P i = C := ⟨_, rfl⟩
                      have hCl : C.length = n := by rw [← hC, clrM_len]; exact HPN.out
                      have hCi : C.getD i [] = P.getD i [] := by rw [← hC, clrM_get _ _ _ _ _ (by rw [HPN.out]; omega), if_neg (by omega)]
                      have hCp : C.getD pl [] = P.getD pl [] := by rw [← hC, clrM_get _ _ _ _ _ (by rw [HPN.out]; omega), if_neg (by omega)]
                      have hnx : clrM p pl cc P (i + 1) = if i = pl then C else C.set i (clrR p cc (P.getD i []) (P.getD pl [])) := by
                        show clrS p pl cc (clrM p pl cc P i) i = _
                        rw [hC]; unfold clrS; rw [hCi, hCp]
                      obtain ⟨Pi, hPi⟩ : ∃ Pi, P.getD i [] = Pi := ⟨_, rfl⟩
                      obtain ⟨Pp, hPp⟩ : ∃ Pp, P.getD pl [] = Pp := ⟨_, rfl⟩
                      have hPil := HPE.out i hli
                      have hPpl := HPE.out pl hln
                      rw [hPi] at hPil hCi hnx
                      rw [hPp] at hPpl hCp hnx
                      rw [hC] at HS2
                      have hci := HS2.out.rows.cell i hli
                      have hoi := HS2.out.rows.own i hli
                      rw [hCi, hPil.1] at hci
                      rw [hCi] at hoi
                      have hcf := hoi.cell cc (by rw [hPil.1]; omega)
                      have hfb := hPil.2 cc (by rw [hPil.1]; omega)
                      obtain ⟨f, hf⟩ : ∃ f, Pi.getD cc 0 = f := ⟨_, rfl⟩
                      rw [hf] at hcf hfb
                      have qi : (i : Int) < (n : Int) := by omega
                      have qi0 : (0 : Int) ≤ (i : Int) := by omega
                      have qp0 : (0 : Int) ≤ (pl : Int) := by omega
                      have qp : (pl : Int) < (n : Int) := by omega
                      have HCL := Lib.hid hCl
                      have HCI := Lib.hid hCi
                      have HCP := Lib.hid hCp
                      have HNXT := Lib.hid hnx
                      have HPIL := Lib.hid hPil
                      have HPPL := Lib.hid hPpl
                      have HF := Lib.hid hf
                      clear hC hCl hCi hCp hnx hPi hPp hPil hPpl hoi hf
                      by_cases hact : i ≠ pl ∧ f ≠ 0
                      · obtain ⟨hne, hf0⟩ := hact
                        have t6 : ((i : Int) != (pl : Int)) = true := by simp; omega
                        have t6' : (i != pl) = true := by simp; omega
                        have t7 : (f != 0) = true := by simpa using hf0
                        have hnx := HNXT.out
                        rw [if_neg hne] at hnx
                        have hcR : clrR p cc Pi Pp = linL p ((0 - f) % p) Pi Pp := by unfold clrR; rw [HF.out, if_neg hf0]
                        obtain ⟨CL, hCL⟩ : ∃ CL, clrR p cc Pi Pp = CL := ⟨_, rfl⟩
                        have hcll : CL.length = u + 1 := by rw [← hCL, hcR, linL_len, HPIL.out.1, HPPL.out.1]; simp
                        have hclg : ∀ j, j < u + 1 → CL.getD j 0 = (Pi.getD j 0 - f * Pp.getD j 0 % (p : Int)) % (p : Int) := fun j hj => by
                          rw [← hCL, hcR, linL_get _ _ _ _ _ (by rw [HPIL.out.1, HPPL.out.1]; simp; omega)]
                          refine Cg.eq (p := (p : Int)) ?_ (linC_bd p _ _ _ _ hp1).1 (linC_bd p _ _ _ _ hp1).2 (Int.emod_nonneg _ (by omega)) (Int.emod_lt_of_pos _ (by omega))
                          refine (linC_cg p _ _ _ _).trans ((Cg.emod p _).trans ?_).symm
                          have e1 : Pi.getD j 0 + (0 - f) % (p : Int) * Pp.getD j 0 = Pi.getD j 0 + (0 - f) % (p : Int) * Pp.getD j 0 := rfl
                          refine ((Cg.refl _ _).sub (Cg.emod p _)).trans ?_
                          have e2 := (Cg.refl (p : Int) (Pi.getD j 0)).add ((Cg.emod p (0 - f)).mul (Cg.refl p (Pp.getD j 0)))
                          have e3 : Pi.getD j 0 + (0 - f) * Pp.getD j 0 = Pi.getD j 0 - f * Pp.getD j 0 := by rw [Int.zero_sub, Int.neg_mul]; omega
                          rw [e3] at e2
                          exact e2.symm
                        rw [hCL] at hnx
                        have hst0 : C.set i (mixL Pi CL 0) = C := by rw [mixL_zero, ← HCI.out]; exact set_same C i
                        have HNX2 := Lib.hid hnx
                        have HCLL := Lib.hid hcll
                        have HCLG := Lib.hid hclg
                        have HST2 := Lib.hid hst0
                        have HNE := Lib.hid hne
                        clear hnx hcR hCL hcll hclg hst0 hf0
                        go_wp2_with fail
                        clear hci hcf
                        go_loopw [17] (fun t wr => ∃ j : Nat, j ≤ u + 1 ∧ t = .int .i64 (j : Int) ∧ RSt B rb n w u8 lead (C.set i (mixL Pi CL j)) gs1 cs1 wr) (fun t _ => u + 1 - (intOf t).toNat)
                        case atStart => exact ⟨0, by omega, rfl, by rw [HST2.out]; exact HS2.out⟩
                        case round =>
                          obtain ⟨j, hju, rfl, hs⟩ := hrel
                          have HS3 := Lib.hid hs
                          clear hs
                          have gi : (C.set i (mixL Pi CL j)).getD i [] = mixL Pi CL j := by rw [getD_setR _ _ _ _ _ (by rw [HCL.out]; exact hli), if_pos rfl]
                          have gp : (C.set i (mixL Pi CL j)).getD pl [] = Pp := by rw [getD_setR _ _ _ _ _ (by rw [HCL.out]; exact hli), if_neg (Ne.symm HNE.out)]; exact HCP.out
                          have ci := HS3.out.rows.cell i hli
                          rw [gi, mixL_len, HPIL.out.1] at ci
                          by_cases hlj : j < u + 1
                          · have cp := HS3.out.rows.cell pl hln
                            have oi := HS3.out.rows.own i hli
                            have op := HS3.out.rows.own pl hln
                            rw [gp, HPPL.out.1] at cp
                            rw [gi] at oi
                            rw [gp] at op
                            have ca := oi.cell j (by rw [mixL_len, HPIL.out.1]; exact hlj)
                            have cb := op.cell j (by rw [HPPL.out.1]; exact hlj)
                            have fz := oi.frozen j
                            rw [mixL_get _ _ _ _ (by rw [HPIL.out.1]; exact hlj), if_neg (by omega)] at ca
                            have ab := HPIL.out.2 j (by rw [HPIL.out.1]; exact hlj)
                            have bb := HPPL.out.2 j (by rw [HPPL.out.1]; exact hlj)
                            have hcg := HCLG.out j hlj
                            have hput := HS3.out.drew.put hrbl hli j (CL.getD j 0)
                            rw [gi, List.set_set, mixL_set _ _ _ (by rw [HPIL.out.1]; exact hlj)] at hput
                            obtain ⟨a, ha⟩ : ∃ a, Pi.getD j 0 = a := ⟨_, rfl⟩
                            obtain ⟨b, hb⟩ : ∃ b, Pp.getD j 0 = b := ⟨_, rfl⟩
                            rw [ha] at ca ab hcg
                            rw [hb] at cb bb hcg
                            obtain ⟨z, hz'⟩ : ∃ z, CL.getD j 0 = z := ⟨_, rfl⟩
                            rw [hz'] at hcg hput
                            have hmb := mulI_bd hfb.1 (show f < 1073741824 by omega) bb.1 (show b < 1073741824 by omega)
                            obtain ⟨fb, hfb'⟩ : ∃ fb, f * b % (p : Int) = fb := ⟨_, rfl⟩
                            have fbb : 0 ≤ fb ∧ fb < p := by rw [← hfb']; exact ⟨Int.emod_nonneg _ (by omega), Int.emod_lt_of_pos _ (by omega)⟩
                            rw [hfb'] at hcg
                            have wm : IntKind.i64.wrap (f * b) = f * b := IntWalk.i64_in _ ⟨by omega, by omega⟩
                            have tm : (f * b).tmod (p : Int) = fb := by rw [Int.tmod_eq_emod_of_nonneg hmb.1]; exact hfb'
                            have hsub := fun W => r_SubI p a fb W hp1 h2 ab.1 ab.2 fbb.1 fbb.2
                            rw [← hcg] at hsub
                            have HSUB := Lib.hid hsub
                            have HPUT := Lib.hid hput
                            have hp0 : ¬ p = 0 := by omega
                            have hp0' : ¬ (p : Int) = 0 := by omega
                            have qj : (j : Int) < (u : Int) + 1 := by omega
                            have qj0 : (0 : Int) ≤ (j : Int) := by omega
                            clear gi gp oi op hcg hput ha hb hz' hfb' hsub
                            go_wp2_with fail
                            refine wp_region_last_lit _ _ (fun W => W.cell? ⟨rb, i, none⟩ = some (.slice (some ⟨gs1 i, 0, none⟩) (u + 1) (cs1 i)) ∧ W.cell? ⟨rb, pl, none⟩ = some (.slice (some ⟨gs1 pl, 0, none⟩) (u + 1) (cs1 pl)) ∧ W.cell? ⟨gs1 i, j, none⟩ = some (.int .i64 a) ∧ W.cell? ⟨gs1 pl, j, none⟩ = some (.int .i64 b) ∧ W.frozen? ⟨gs1 i, j, none⟩ = false) hmx rfl (by kernel_rfl) ⟨ci, cp, ca, cb, fz⟩ (fun hS => ?_)
                            simp only [List.dropLast]
                            refine wpAnyH_take (i := 0) (v := ?_) rfl (by kernel_rfl) (by kernel_rfl) (by kernel_rfl) (fun _ _ _ h => h) (Or.inl ⟨by rfl, ?_⟩) (by assumption) ?_
                            rotate_left
                            · (intro w hSw; (try dsimp only at hSw); go_simp; try (with_reducible rfl))
                            try simp only [Act.put, List.setIfInBounds_toArray, List.set_cons_zero, List.set_cons_succ]
                            refine wpAnyH_take (i := 1) (v := ?_) rfl (by kernel_rfl) (by kernel_rfl) (by kernel_rfl) (fun _ _ _ h => h) (Or.inl ⟨by rfl, ?_⟩) (by assumption) ?_
                            rotate_left
                            · (intro w hSw; (try dsimp only at hSw); go_simp; try (with_reducible rfl))
                            try simp only [Act.put, List.setIfInBounds_toArray, List.set_cons_zero, List.set_cons_succ]
                            refine wpAnyH_take (i := 2) (v := ?_) rfl (by kernel_rfl) (by kernel_rfl) (by kernel_rfl) (fun _ _ _ h => h) (Or.inl ⟨by rfl, ?_⟩) (by assumption) ?_
                            rotate_left
                            · (intro w hSw; (try dsimp only at hSw); go_simp; try (with_reducible rfl))
                            try simp only [Act.put, List.setIfInBounds_toArray, List.set_cons_zero, List.set_cons_succ]
                            refine wpAnyH_take (i := 3) (v := ?_) rfl (by kernel_rfl) (by kernel_rfl) (by kernel_rfl) (fun _ _ _ h => h) (Or.inl ⟨by rfl, ?_⟩) (by assumption) ?_
                            rotate_left
                            · (intro w hSw; (try dsimp only at hSw); go_simp; try (with_reducible rfl))
                            try simp only [Act.put, List.setIfInBounds_toArray, List.set_cons_zero, List.set_cons_succ]
                            refine wpAnyH_take (i := 4) (v := ?_) rfl (by kernel_rfl) (by kernel_rfl) (by kernel_rfl) (fun _ _ _ h => h) (Or.inl ⟨by rfl, ?_⟩) (by assumption) ?_
                            rotate_left
                            · (intro w hSw; (try dsimp only at hSw); go_simp; try (with_reducible rfl))
                            try simp only [Act.put, List.setIfInBounds_toArray, List.set_cons_zero, List.set_cons_succ]
                            refine wpAnyH_take (i := 5) (v := ?_) rfl (by kernel_rfl) (by kernel_rfl) (by kernel_rfl) (fun _ _ _ h => h) (Or.inl ⟨by rfl, ?_⟩) (by assumption) ?_
                            rotate_left
                            · (intro w hSw; (try dsimp only at hSw); go_simp; try (with_reducible rfl))
                            try simp only [Act.put, List.setIfInBounds_toArray, List.set_cons_zero, List.set_cons_succ]
                            refine wpAnyH_take (i := 6) (v := ?_) rfl (by kernel_rfl) (by kernel_rfl) (by kernel_rfl) (fun _ _ _ h => h) (Or.inl ⟨by rfl, ?_⟩) (by assumption) ?_
                            rotate_left
                            · (intro w hSw; (try dsimp only at hSw); go_simp; try (with_reducible rfl))
                            try simp only [Act.put, List.setIfInBounds_toArray, List.set_cons_zero, List.set_cons_succ]
                            refine wpAnyH_take (i := 7) (v := ?_) rfl (by kernel_rfl) (by kernel_rfl) (by kernel_rfl) (fun _ _ _ h => h) (Or.inl ⟨by rfl, ?_⟩) (by assumption) ?_
                            rotate_left
                            · (intro w hSw; (try dsimp only at hSw); go_simp; try (with_reducible rfl))
                            try simp only [Act.put, List.setIfInBounds_toArray, List.set_cons_zero, List.set_cons_succ]
                            refine wpAnyH_take (i := 8) (v := ?_) rfl (by kernel_rfl) (by kernel_rfl) (by kernel_rfl) (fun _ _ _ h => h) (Or.inl ⟨by rfl, ?_⟩) (by assumption) ?_
                            rotate_left
                            · (intro w hSw; (try dsimp only at hSw); go_simp; try (with_reducible rfl))
                            try simp only [Act.put, List.setIfInBounds_toArray, List.set_cons_zero, List.set_cons_succ]
                            refine wpAnyH_take (i := 9) (v := ?_) rfl (by kernel_rfl) (by kernel_rfl) (by kernel_rfl) (fun _ _ _ h => h) (Or.inl ⟨by rfl, ?_⟩) (by assumption) ?_
                            rotate_left
                            · (intro w hSw; (try dsimp only at hSw); go_simp; try (with_reducible rfl))
                            try simp only [Act.put, List.setIfInBounds_toArray, List.set_cons_zero, List.set_cons_succ]
                            refine wpAnyH_take (i := 10) (v := ?_) rfl (by kernel_rfl) (by kernel_rfl) (by kernel_rfl) (fun _ _ _ h => h) (Or.inl ⟨by rfl, ?_⟩) (by assumption) ?_
                            rotate_left
                            · (intro w hSw; (try dsimp only at hSw); go_simp; try (with_reducible rfl))
                            try simp only [Act.put, List.setIfInBounds_toArray, List.set_cons_zero, List.set_cons_succ]
                            refine wpAnyH_take (i := 11) (v := ?_) rfl (by kernel_rfl) (by kernel_rfl) (by kernel_rfl) (fun _ _ _ h => h) (Or.inl ⟨by rfl, ?_⟩) (by assumption) ?_
                            rotate_left
                            · (intro w hSw; (try dsimp only at hSw); go_simp; try (with_reducible rfl))
                            try simp only [Act.put, List.setIfInBounds_toArray, List.set_cons_zero, List.set_cons_succ]
                            refine wpAnyH_take (i := 12) (v := ?_) rfl (by kernel_rfl) (by kernel_rfl) (by kernel_rfl) (fun _ _ _ h => h) (Or.inl ⟨by rfl, ?_⟩) (by assumption) ?_
                            rotate_left
                            · (intro w hSw; (try dsimp only at hSw); go_simp; try (with_reducible rfl))
                            try simp only [Act.put, List.setIfInBounds_toArray, List.set_cons_zero, List.set_cons_succ]
                            refine wpAnyH_take (i := 13) (v := ?_) rfl (by kernel_rfl) (by kernel_rfl) (by kernel_rfl) (fun _ _ _ h => h) (Or.inl ⟨by rfl, ?_⟩) (by assumption) ?_
                            rotate_left
                            · (intro w hSw; (try dsimp only at hSw); go_simp; try (with_reducible rfl))
                            try simp only [Act.put, List.setIfInBounds_toArray, List.set_cons_zero, List.set_cons_succ]
                            refine wpAnyH_take (i := 14) (v := ?_) rfl (by kernel_rfl) (by kernel_rfl) (by kernel_rfl) (fun _ _ _ h => h) (Or.inl ⟨by rfl, ?_⟩) (by assumption) ?_
                            rotate_left
                            · (intro w hSw; (try dsimp only at hSw); go_simp; try (with_reducible rfl))
                            try simp only [Act.put, List.setIfInBounds_toArray, List.set_cons_zero, List.set_cons_succ]
                            refine wpAnyH_take (i := 15) (v := ?_) rfl (by kernel_rfl) (by kernel_rfl) (by kernel_rfl) (fun _ _ _ h => h) (Or.inl ⟨by rfl, ?_⟩) (by assumption) ?_
                            rotate_left
                            · (intro w hSw; (try dsimp only at hSw); go_simp; try (with_reducible rfl))
                            try simp only [Act.put, List.setIfInBounds_toArray, List.set_cons_zero, List.set_cons_succ]
                            refine wpAnyH_take (i := 16) (v := ?_) rfl (by kernel_rfl) (by kernel_rfl) (by kernel_rfl) (fun _ _ _ h => h) (Or.inl ⟨by rfl, ?_⟩) (by assumption) ?_
                            rotate_left
                            · (intro w hSw; (try dsimp only at hSw); go_simp; try (with_reducible rfl))
                            try simp only [Act.put, List.setIfInBounds_toArray, List.set_cons_zero, List.set_cons_succ]
                            refine wpAnyH_take (i := 17) (v := ?_) rfl (by kernel_rfl) (by kernel_rfl) (by kernel_rfl) (fun _ _ _ h => h) (Or.inl ⟨by rfl, ?_⟩) (by assumption) ?_
                            rotate_left
                            · (intro w hSw; (try dsimp only at hSw); go_simp; try (with_reducible rfl))
                            try simp only [Act.put, List.setIfInBounds_toArray, List.set_cons_zero, List.set_cons_succ]
                            refine wpAnyH_take (i := 18) (v := ?_) rfl (by kernel_rfl) (by kernel_rfl) (by kernel_rfl) (fun _ _ _ h => h) (Or.inl ⟨by rfl, ?_⟩) (by assumption) ?_
                            rotate_left
                            · (intro w hSw; (try dsimp only at hSw); go_simp; try (with_reducible rfl))
                            try simp only [Act.put, List.setIfInBounds_toArray, List.set_cons_zero, List.set_cons_succ]
                            refine wpAnyH_take (i := 19) (v := ?_) rfl (by kernel_rfl) (by kernel_rfl) (by kernel_rfl) (fun _ _ _ h => h) (Or.inl ⟨by rfl, ?_⟩) (by assumption) ?_
                            rotate_left
                            · (intro w hSw; (try dsimp only at hSw); go_simp; try (with_reducible rfl))
                            try simp only [Act.put, List.setIfInBounds_toArray, List.set_cons_zero, List.set_cons_succ]
                            refine wpAnyH_take (i := 20) (v := ?_) rfl (by kernel_rfl) (by kernel_rfl) (by kernel_rfl) (fun _ _ _ h => h) (Or.inl ⟨by rfl, ?_⟩) (by assumption) ?_
                            rotate_left
                            · (intro w hSw; (try dsimp only at hSw); go_simp; try (with_reducible rfl))
                            try simp only [Act.put, List.setIfInBounds_toArray, List.set_cons_zero, List.set_cons_succ]
                            refine wpAnyH_take (i := 21) (v := ?_) rfl (by kernel_rfl) (by kernel_rfl) (by kernel_rfl) (fun _ _ _ h => h) (Or.inl ⟨by rfl, ?_⟩) (by assumption) ?_
                            rotate_left
                            · (intro w hSw; (try dsimp only at hSw); go_simp; try (with_reducible rfl))
                            try simp only [Act.put, List.setIfInBounds_toArray, List.set_cons_zero, List.set_cons_succ]
                            refine wpAnyH_take (i := 22) (v := ?_) rfl (by kernel_rfl) (by kernel_rfl) (by kernel_rfl) (fun _ _ _ h => h) (Or.inl ⟨by rfl, ?_⟩) (by assumption) ?_
                            rotate_left
                            · (intro w hSw; (try dsimp only at hSw); go_simp; try (with_reducible rfl))
                            try simp only [Act.put, List.setIfInBounds_toArray, List.set_cons_zero, List.set_cons_succ]
                            refine wpAnyH_take (i := 23) (v := ?_) rfl (by kernel_rfl) (by kernel_rfl) (by kernel_rfl) (fun _ _ _ h => h) (Or.inl ⟨by rfl, ?_⟩) (by assumption) ?_
                            rotate_left
                            · (intro w hSw; (try dsimp only at hSw); go_simp; try (with_reducible rfl))
                            try simp only [Act.put, List.setIfInBounds_toArray, List.set_cons_zero, List.set_cons_succ]
                            refine wpAnyH_ready (rs := [24]) (by kernel_rfl) (by simp) ?_
                            refine AllReadyH.cons rfl (fun K hK => ?_) AllReadyH.nil
                            go_simp
                            refine (HSUB.out _).mono ?_
                            rintro e w' ⟨rfl, rfl⟩
                            refine hK.out _ _ (hS) (fun hHeld => ?_)
                            clear hK K
                            try simp only [Act.put, List.setIfInBounds_toArray, List.set_cons_zero, List.set_cons_succ]
                            refine wpAnyH_take (i := 25) (v := ?_) rfl (by kernel_rfl) (by kernel_rfl) (by kernel_rfl) (fun _ _ _ h => h) (Or.inl ⟨by rfl, ?_⟩) (by assumption) ?_
                            rotate_left
                            · (intro w hSw; (try dsimp only at hSw); go_simp; try (with_reducible rfl))
                            try simp only [Act.put, List.setIfInBounds_toArray, List.set_cons_zero, List.set_cons_succ]
                            refine wpAnyH_done (by kernel_rfl) ?_ _
                            refine lastQ_step (by rfl) (by rfl) ?_
                            go_simp
                            clear ci cp ca cb fz wm tm hS
                            go_wp2_with fail
                            go_roundw
                            case measure => simp [intOf]; omega
                            case rel => first | exact ⟨j + 1, by omega, by go_num, HPUT.out⟩ | ((repeat apply Exists.intro); exact ⟨⟨j + 1, by omega, by go_num, HPUT.out⟩, rfl⟩)
                          · have hju' : j = u + 1 := by omega
                            subst hju'
                            have hsn : RSt B rb n w u8 lead (clrM p pl cc P (i + 1)) gs1 cs1 wr := by
                              have := HS3.out
                              rw [← HPIL.out.1, mixL_all _ _ (by rw [HCLL.out, HPIL.out.1]), ← HNX2.out] at this
                              exact this
                            have HSN := Lib.hid hsn
                            clear gi gp hsn
                            go_wp2_with fail
                            clear ci
                            go_roundw
                            case measure => simp [intOf]; omega
                            case rel => exact ⟨i + 1, by omega, by go_num, HSN.out⟩
                      · have hnx : clrM p pl cc P (i + 1) = C := by
                          rw [HNXT.out]
                          by_cases e : i = pl
                          · rw [if_pos e]
                          · rw [if_neg e]
                            have hf0 : f = 0 := by
                              by_cases e2 : f = 0
                              · exact e2
                              · exact absurd ⟨e, e2⟩ hact
                            unfold clrR
                            rw [HF.out, if_pos hf0, ← HCI.out]; exact set_same C i
                        have hway : (((i : Int) != (pl : Int)) = false ∧ (i != pl) = false) ∨ (((i : Int) != (pl : Int)) = true ∧ (i != pl) = true ∧ (f != 0) = false) := by
                          by_cases e : i = pl
                          · exact .inl ⟨by simp; omega, by simp; omega⟩
                          · refine .inr ⟨by simp; omega, by simp; omega, ?_⟩
                            by_cases e2 : f = 0
                            · simp [e2]
                            · exact absurd ⟨e, e2⟩ hact
                        have HNX2 := Lib.hid hnx
                        clear hnx hact
                        rcases hway with ⟨t6, t6'⟩ | ⟨t6, t6', t7⟩
                        all_goals
                          go_wp2_with fail
                          go_loopw [17] (fun t wr => t = .int .i64 0 ∧ wq = wr) (fun t _ => 0)
                          case atStart => exact ⟨rfl, rfl⟩
                          case round =>
                            obtain ⟨rfl, rfl⟩ := hrel
                            go_wp2_with fail
                            go_roundw
                            case measure => simp [intOf]; omega
                            case rel => exact ⟨i + 1, by omega, by go_num, by rw [HNX2.out]; exact HS2.out⟩
                    · have hin' : i = n := by omega
                      subst hin'
                      have hfar := HS2.out.far hrbl
                      have hll : (lead.map Int.ofNat).length ≤ 1000 := by rw [List.length_map, HPL.out]; omega
                      have hlo : wq.ownsRow w.heap.size 3 1 u8 pl ((lead.map Int.ofNat).map (Value.int .i64)) := by
                        have := HS2.out.own
                        unfold OwnI at this
                        rwa [List.length_map, HPL.out] at this
                      have hsz2 := HS2.out.old.size
                      have hrw := HS2.out.rows
                      have HLO := Lib.hid hlo
                      have HFAR := Lib.hid hfar
                      have HRW := Lib.hid hrw
                      clear hfar hll hlo hrw
                      go_wp2_with (at_builtin; refine wpList_append_own _ rfl _ _ 22 rfl w.heap.size 3 i0 (.int .i64 0) 1 8 Tryd.underlying22 hi hz0 hz1 hz2 rfl (by decide) _ _ _ rfl (HLO.out.alloc _) ⟨wq.heap.size, 0, none⟩ 1 1 [.int .i64 (cc : Int)] rfl rfl (fun j u hj => by have := cell_one_new wq (.int .i64 (cc : Int)) 3 j u hj; simpa using this) (ints_oneCell .i64 [_]) (by unfold maxLen; omega) (by omega) (by simp; omega) ?_)
                      intro v9 w9 hown9 hgrow9 _
                      have hg9 := grown_past hgrow9
                      have ho9 : OwnI w9 w.heap.size v9 ((lead ++ [cc]).map Int.ofNat) := by
                        unfold OwnI
                        rw [List.length_map, List.length_append, HPL.out, List.map_append, List.map_append]
                        simpa using hown9
                      have hs9 : RSt B rb i w v9 (lead ++ [cc]) (clrM p pl cc P i) gs1 cs1 w9 := by
                        refine ⟨HRW.out.kept hg9 ?_ ?_, ho9, HS2.out.old.grown hg9 (by have := HRW.out.base; have := HRW.out.lt; omega) (fun g hg => by have := (HLO.out.lt g hg).1; have := HRW.out.base; omega), HS2.out.lt⟩
                        · rcases HFAR.out.1 with h | h
                          · rw [h]; simp
                          · exact Ne.symm h
                        · intro k hk
                          rcases HFAR.out.2 k hk with h | h
                          · rw [h]; simp
                          · exact Ne.symm h
                      have HS9 := Lib.hid hs9
                      clear hown9 hgrow9 hg9 ho9 hs9
                      go_wp2_with fail
                      go_roundw
                      case measure => simp [intOf]; omega
                      case rel => exact ⟨cc + 1, _, lead ++ [cc], gs1, cs1, by omega, by go_num, by rw [List.length_append, HPL.out]; go_num, HELR.out, HS9.out⟩
        · have hkn' : k = n := by omega
          subst hkn'
          go_wp2_with fail
          go_roundw
          case measure => simp [intOf]; omega
          case rel => exact ⟨cc + 1, R, lead, gs, cs, by omega, by go_num, by rw [HPL.out], HEL.out.skip (fun j h1 h3 => HZ.out j (by rw [← HPL.out]; exact h1) (by rw [← HRN.out]; exact h3)), HST.out⟩
    · have hfin : u ≤ cc ∨ n ≤ pl := by omega
      obtain ⟨Al, ca, rfl⟩ : ∃ A c, u8 = .slice A pl c := by
        have hh := HST.out.own
        rcases hh.form with ⟨h, h0⟩ | ⟨g, c, h, _⟩
        · have h1 := congrArg List.length h0
          rw [List.length_map, HPL.out] at h1
          have h2 : pl = 0 := h1
          exact ⟨none, 0, by rw [h, h2]⟩
        · exact ⟨_, _, by rw [h, List.length_map, HPL.out]⟩
      have hsl := fun (W : World) => run_slice_lo (P := Tryd.prog) W 48 22 j0 1 Tryd.underlying48 hj hy1 (some ⟨rb, 0, none⟩) n cap pl (by omega) hnc (pl : Int) rfl
      obtain ⟨A2, hA2⟩ : ∃ A2, subA (some ⟨rb, 0, none⟩) cap pl 1 = A2 := ⟨_, rfl⟩
      obtain ⟨m, hm⟩ : ∃ m, n - pl = m := ⟨_, rfl⟩
      obtain ⟨cm, hcm⟩ : ∃ cm, cap - pl = cm := ⟨_, rfl⟩
      simp only [hA2, hm, hcm] at hsl
      have hA3 : pl < n → A2 = some ⟨rb, pl, none⟩ := fun h => by
        rw [← hA2]
        unfold subA
        rw [if_neg (by omega)]
        show some ((⟨rb, 0, none⟩ : Addr).add (pl * 1)) = _
        unfold Addr.add
        split <;> simp_all
      have HA3 := Lib.hid hA3
      have HFIN := Lib.hid hfin
      have HM := Lib.hid hm
      have hmk := fun (W : World) => run_make (P := Tryd.prog) W 22 3 i0 (.int .i64 0) Tryd.underlying22 hi hz0 .i64 .i64 u u (by omega) (by omega) (by rw [hz2]; omega) (by omega)
      simp only [Int.toNat_natCast, hz1, Nat.mul_one] at hmk
      have hway : (decide ((cc : Int) < (u : Int)) = false ∧ decide (cc < u) = false) ∨ (decide ((cc : Int) < (u : Int)) = true ∧ decide (cc < u) = true ∧ decide ((pl : Int) < (n : Int)) = false ∧ decide (pl < n) = false) := by
        by_cases h : cc < u
        · exact .inr ⟨decide_eq_true (by omega), decide_eq_true h, decide_eq_false (by omega), decide_eq_false (by omega)⟩
        · exact .inl ⟨decide_eq_false (by omega), decide_eq_false h⟩
      clear hA3 hA2 hfin hm hcm hgo
      rcases hway with ⟨t1, t1'⟩ | ⟨t1, t1', t2, t2'⟩
      all_goals
        go_wp2_with fail
        go_loopw [174] (fun t wr => ∃ i : Nat, i ≤ m ∧ t = .int .i64 i ∧ (∀ j, j < i → (R.getD (pl + j) []).getD u 0 = 0) ∧ wo = wr) (fun t _ => m - (intOf t).toNat)
        case atStart => exact ⟨0, by omega, rfl, fun j hj => absurd hj (Nat.not_lt_zero j), rfl⟩
        case round =>
          obtain ⟨i, him, rfl, hz, rfl⟩ := hrel
          have HZ := Lib.hid hz
          clear hz
          by_cases hlt : i < m
          · have hplin : pl + i < n := by have := HM.out; omega
            obtain rfl := HA3.out (by omega)
            have hv := HST.out.rows.cell (pl + i) hplin
            have ho := HST.out.rows.own (pl + i) hplin
            have hlr := (HRL.out (pl + i) hplin).1
            have cy := ho.cell u (by omega)
            rw [hlr] at hv
            obtain ⟨y, hy⟩ : ∃ y, (R.getD (pl + i) []).getD u 0 = y := ⟨_, rfl⟩
            rw [hy] at cy
            have HY := Lib.hid hy
            have qi : (i : Int) < (m : Int) := by omega
            have qi0 : (0 : Int) ≤ (i : Int) := by omega
            have qu : (u : Int) < (u : Int) + 1 := by omega
            have qu0 : (0 : Int) ≤ (u : Int) := by omega
            clear hy ho hlr
            by_cases hy0 : y = 0
            · have t0 : (y != 0) = false := by rw [hy0]; rfl
              have HY0 := Lib.hid hy0
              clear hy0
              go_wp2_with fail
              go_roundw
              case measure => simp [intOf]; omega
              case rel => exact ⟨i + 1, by omega, by go_num, fun j hj => by
                rcases Nat.lt_or_ge j i with h | h
                · exact HZ.out j h
                · rw [show j = i by omega, HY.out]; exact HY0.out, by first | rfl | trivial⟩
            · have t0 : (y != 0) = true := by simpa using hy0
              have HY0 := Lib.hid hy0
              clear hy0
              go_wp2_with fail
              go_ret2
              exact .inl ⟨rfl, fun v => HEL.out.none (by rcases HFIN.out with h | h <;> omega) (k := pl + i) (by rw [HPL.out]; omega) (by rw [HRN.out]; exact hplin) (by rw [HY.out]; exact HY0.out) v, HST.out.old⟩
          · have hi' : i = m := by omega
            subst hi'
            have hzz : ∀ k, lead.length ≤ k → k < R.length → (R.getD k []).getD u 0 = 0 := fun k h1 h3 => by
              have := HPL.out; have := HRN.out; have := HM.out
              have h4 := HZ.out (k - pl) (by omega)
              rwa [show pl + (k - pl) = k by omega] at h4
            have hsol := HEL.out.solves (by omega) hzz
            rw [HPL.out] at hsol
            have HSOL := Lib.hid hsol
            have hown := OwnI.made (B := wo.heap.size) wo u (Nat.le_refl _) (by omega)
            have hrep : List.replicate u (0 : Int) = (List.range u).map (solV u R lead 0) := by
              apply List.ext_getElem (by simp)
              intro j h1 h2
              simp [solV]
            rw [hrep] at hown
            have HOWN := Lib.hid hown
            clear hzz hsol hown hrep HZ
            go_wp2_with fail
            obtain ⟨g, hg⟩ : ∃ g, wo.heap.size = g := ⟨_, rfl⟩
            have hbw0 : Below wo.heap.size wo (wo.alloc (.cells (madeCells #[Value.int .i64 0] u) 3)) := (Below.refl _ _).alloc (Nat.le_refl _) _
            have HBW0 := Lib.hid hbw0
            rw [hg] at HOWN
            try rw [hg]
            have HG := Lib.hid hg
            clear hbw0 hg
            go_loopw [188] (fun t wr => ∃ k : Nat, k ≤ pl ∧ t = .int .i64 k ∧ OwnI wr g (.slice (some ⟨g, 0, none⟩) u u) ((List.range u).map (solV u R lead k)) ∧ Below wo.heap.size wo wr) (fun t _ => pl - (intOf t).toNat)
            case atStart => exact ⟨0, by omega, rfl, HOWN.out, HBW0.out⟩
            case round =>
              obtain ⟨k, hkp, rfl, ho, hb⟩ := hrel
              have HO := Lib.hid ho
              have HB := Lib.hid hb
              by_cases hlt2 : k < pl
              · have hkl : k < lead.length := by rw [HPL.out]; exact hlt2
                have hOl : OwnI wr w.heap.size (.slice Al pl ca) (lead.map Int.ofNat) := HST.out.own.below hb
                have hRl := HST.out.rows.below hb
                rcases hOl.form with ⟨_, h0⟩ | ⟨gl, cl, hv, _⟩
                · have := congrArg List.length h0; rw [List.length_map, HPL.out] at this; simp at this; omega
                rw [show (lead.map Int.ofNat).length = pl by rw [List.length_map]; exact HPL.out] at hv
                injection hv with v1 _ v3
                subst v1 v3
                have ck := hOl.cell k (by simp; exact hkl)
                have hmd : (lead.map Int.ofNat).getD k 0 = (lead.getD k 0 : Int) := by
                  rw [List.getD_eq_getElem?_getD, List.getElem?_map, List.getElem?_eq_getElem hkl, List.getD_eq_getElem?_getD, List.getElem?_eq_getElem hkl]; rfl
                rw [hmd] at ck
                have hv := hRl.cell k (by omega)
                have hor := hRl.own k (by omega)
                have hlr := (HRL.out k (by omega)).1
                have cy := hor.cell u (by omega)
                rw [hlr] at hv
                have hlu := HEL.out.below k hkl
                have hset := solV_set u R lead k (by omega)
                have hst := fun y => ho.set (lead.getD k 0) y
                have hco := ho.cell (lead.getD k 0) (by rw [List.length_map, List.length_range]; omega)
                have hfz := ho.frozen (lead.getD k 0)
                have hgl : wo.heap.size ≤ g := by rw [HG.out]; exact Nat.le_refl _
                generalize (R.getD k []).getD u 0 = y at *
                obtain ⟨ld, hld⟩ : ∃ ld, lead.getD k 0 = ld := ⟨_, rfl⟩
                rw [hld] at ck hlu hset hst hco hfz
                generalize ((List.range u).map (solV u R lead k)).getD ld 0 = yo at *
                have HSET := Lib.hid hset
                have HSTT := Lib.hid hst
                have qk : (k : Int) < (pl : Int) := by omega
                have qk0 : (0 : Int) ≤ (k : Int) := by omega
                have qkn : (k : Int) < (n : Int) := by omega
                have qu : (u : Int) < (u : Int) + 1 := by omega
                have qu0 : (0 : Int) ≤ (u : Int) := by omega
                have ql : (ld : Int) < (u : Int) := by omega
                have ql0 : (0 : Int) ≤ (ld : Int) := by omega
                clear hset hst ho hb hOl hRl hor hld hmd hlr
                go_wp2_with fail
                go_roundw
                case measure => simp [intOf]; omega
                case rel => exact ⟨k + 1, by omega, by go_num, by rw [← HSET.out]; exact HSTT.out y, HB.out.setCell (p := ⟨g, ld, none⟩) hgl _⟩
              · have hk' : k = pl := by omega
                subst hk'
                clear ho hb
                go_wp2_with fail
                go_ret2
                refine .inr ⟨_, _, rfl, HO.out.mono (by rw [← HG.out]; exact HST.out.old.size), by simp, InF.of_mem ?_, ?_, HST.out.old.trans (HB.out.mono (by have := HST.out.old.size; have := HST.out.rows.base; omega))⟩
                · intro x hx
                  obtain ⟨j, _, rfl⟩ := List.mem_map.1 hx
                  exact solV_bd hp1 (fun i hi => (HRL.out i (by rw [← HRN.out]; exact hi)).2) j _
                · intro r hr
                  have := HSOL.out r hr
                  unfold sat at this ⊢
                  rwa [dot_cg2 r _ _ u fun j hj => solL_get u _ j hj]
end Go.Proofs.YtjfphobfikadlaaDoor
