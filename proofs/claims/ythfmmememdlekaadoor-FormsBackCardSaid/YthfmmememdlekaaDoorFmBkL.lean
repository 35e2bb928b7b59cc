/- Contracts: the statement FormsBack. -/
import Derived.Test.YthfmmememdlekaaDoorFmKco
import Derived.Test.YthfmmememdlekaaDoorFmAwk2
import Derived.Test.YthfmmememdlekaaDoorHanInts
set_option linter.unusedVariables false
set_option linter.unusedSimpArgs false
namespace Go.Proofs.YthfmmememdlekaaDoor
open Go.RowKit Num

/-- A condition in a block of its own. -/
def BX (wk : World) (bx : Nat) (vx : Value) (L : List Trm) : Prop := Blk wk bx 24 #[vx] ∧ TermsAt wk (· < wk.heap.size) vx L
theorem terms_step {wk wq : World} {v : Value} {L : List Trm} (h : TermsAt wk (· < wk.heap.size) v L) (hb : Below wk.heap.size wk wq) : TermsAt wq (· < wq.heap.size) v L :=
  (h.keep fun b hB => hb.block b hB).mono fun b hB => Nat.lt_of_lt_of_le hB hb.size
theorem BX.step {wk wq : World} {bx : Nat} {vx : Value} {L : List Trm} (h : BX wk bx vx L) (hb : Below wk.heap.size wk wq) : BX wq bx vx L := ⟨h.1.below' hb h.1.lt, terms_step h.2 hb⟩
theorem below_alloc (w : World) (o : Obj) : Below w.heap.size w (w.alloc o) := (Below.refl _ _).alloc (Nat.le_refl _) o
theorem BX.alloc {wk : World} {bx : Nat} {vx : Value} {L : List Trm} (h : BX wk bx vx L) (o : Obj) : BX (wk.alloc o) bx vx L := h.step (below_alloc wk o)
theorem BX.new {wk : World} {vx : Value} {L : List Trm} (h : TermsAt wk (· < wk.heap.size) vx L) : BX (wk.alloc (.cells #[vx] 24)) wk.heap.size vx L := ⟨Blk.new _ _ _, terms_step h (below_alloc wk _)⟩
theorem BX.cell {wk : World} {bx : Nat} {vx : Value} {L : List Trm} (h : BX wk bx vx L) : wk.cell? ⟨bx, 0, none⟩ = some vx := (h.1.cell 0).trans rfl
structure BkS (w wk : World) : Prop where
  lib : LibOk wk
  low : Below w.heap.size w wk
theorem BkS.step {w wk wq : World} (h : BkS w wk) (hb : Below wk.heap.size wk wq) : BkS w wq := ⟨h.lib.later hb, h.low.trans (hb.mono h.low.size)⟩
theorem BkS.alloc {w wk : World} (h : BkS w wk) (o : Obj) : BkS w (wk.alloc o) := h.step (below_alloc wk o)
theorem kit_ok {L : List Trm} (h : ∀ t ∈ L, KitT t) : ∀ t ∈ L, TrmOk t := fun t ht => by
  obtain ⟨a, b, _, _, c⟩ := h t ht
  exact ⟨by omega, by omega, by omega⟩
theorem kit_args_le {L : List Trm} (h : ∀ t ∈ L, KitT t) : ∀ t ∈ L, t.args.length ≤ 1000000 := fun t ht => by
  obtain ⟨_, _, _, _, c⟩ := h t ht
  omega
theorem szK_4 : szK 4 = 121 := by decide
theorem szK_3 : szK 3 = 40 := by decide
theorem blOf_app (a b : ByteArray) : blOf (a ++ b) = blOf a ++ blOf b := by
  show (ByteArray.data _).toList = _
  simp [ByteArray.data_append]
/-! ### The text with spaces about its signs -/
def wdS (s : ByteArray) (i : Nat) : ByteArray := bsOf (widB ((blOf s).take i))
theorem ex_one (s : ByteArray) (i : Nat) (h : i < s.size) : s.extract i (i + 1) = bsOf [s[i]] := by
  rw [extract_drop, show i + 1 - i = 1 by omega, drop_cons h]; rfl
theorem take_succ_bl (s : ByteArray) (i : Nat) (h : i < s.size) : (blOf s).take (i + 1) = (blOf s).take i ++ [s[i]] := by
  have h1 := drop_cons h
  rw [List.take_add, h1]; rfl
theorem wdS_sign (s : ByteArray) (i : Nat) (h : i < s.size) (hs : signB s[i] = true) : wdS s i ++ ((⟨#[32]⟩ : ByteArray) ++ s.extract i (i + 1) ++ ⟨#[10]⟩) = wdS s (i + 1) := by
  unfold wdS
  rw [take_succ_bl s i h, widB_app, ex_one s i h]
  have e : widB [s[i]] = [32, s[i], 10] := by unfold widB wid1; simp [hs]
  rw [e]
  apply blOf_inj
  simp [blOf_app, blOf_bsOf]
theorem wdS_plain (s : ByteArray) (i : Nat) (h : i < s.size) (hs : signB s[i] = false) : wdS s i ++ s.extract i (i + 1) = wdS s (i + 1) := by
  unfold wdS
  rw [take_succ_bl s i h, widB_app, ex_one s i h]
  have e : widB [s[i]] = [s[i]] := by unfold widB wid1; simp [hs]
  rw [e]
  apply blOf_inj
  simp [blOf_app, blOf_bsOf]
theorem wdS_size (s : ByteArray) (i : Nat) : (wdS s i).size ≤ 3 * s.size := by
  have h1 := widB_len ((blOf s).take i)
  have h2 : ((blOf s).take i).length ≤ s.size := by rw [List.length_take, blOf_len]; omega
  have h3 := blOf_len (wdS s i)
  unfold wdS at h3 ⊢
  rw [blOf_bsOf] at h3
  omega
theorem wdS_zero (s : ByteArray) : wdS s 0 = ⟨#[]⟩ := rfl
theorem wdS_all (s : ByteArray) : blOf ((⟨#[32]⟩ : ByteArray) ++ wdS s s.size) = 32 :: widB (blOf s) := by
  rw [blOf_app]
  unfold wdS
  rw [blOf_bsOf, List.take_of_length_le (by rw [blOf_len]; exact Nat.le_refl _)]
  rfl
set_option maxHeartbeats 400000 in
theorem k_LightF (A : Option Addr) (n c : Nat) (w : World) (h : n ≤ 9223372036854775807) (h5 : ¬ n ≤ 500) : Calls Tryd.prog 14 #[.slice A n c] w fun e w' => e = .returned (.bool false) ∧ w = w' := by
  have := k_Light A n c w h
  rwa [decide_eq_false (by omega)] at this
theorem k_LightT (A : Option Addr) (n c : Nat) (w : World) (h : n ≤ 9223372036854775807) (h5 : n ≤ 500) : Calls Tryd.prog 14 #[.slice A n c] w fun e w' => e = .returned (.bool true) ∧ w = w' := by
  have := k_Light A n c w h
  rwa [decide_eq_true (by omega)] at this
set_option maxRecDepth 100000 in
set_option maxHeartbeats 400000 in
theorem f_back_heavy (A : Option Addr) (n c : Nat) (at_ : Int) (w : World) (hl : LibOk w) (hn : n ≤ 9223372036854775807) (h5 : ¬ n ≤ 500) : Calls Tryd.prog 7 #[.slice A n c, .int .i64 at_] w (AwkEnd w) := by
  have HL := Lib.hid hl
  clear hl
  go_enter Tryd.func7, Tryd.ntmps7
  go_wp2_with fail
  refine (k_LightF A n c _ hn h5).mono ?_
  rintro e w1 ⟨rfl, rfl⟩
  go_wp2_with fail
  refine (f_awake _ HL.out).mono ?_
  rintro e w2 ⟨rfl, hb2⟩
  have HB2 := Lib.hid hb2
  clear hb2
  go_wp2_with fail
  go_ret
  exact ⟨rfl, HB2.out⟩
/-- What Print gives, by the tree. -/
theorem f_PrintS (v : Value) (L : List Trm) (T : Tree) (w : World) (hv : TermsAt w (· < w.heap.size) v L) (hL : L.length ≤ 1000) (hk : ∀ t ∈ L, KitT t) (hl : LibOk w) (hr : rootF L = some T) :
    Calls Tryd.prog 17 #[.agg #[v]] w fun e w' => e = .returned (.tuple #[.string (bsOf (txT 6 T)), .int .i64 0]) ∧ Below w.heap.size w w' := by
  have h := f_Print v L w.heap.size w hv (Nat.le_refl _) (by omega) (kit_ok hk) hl
  rw [hr] at h; exact h
theorem f_PrintN (v : Value) (L : List Trm) (w : World) (hv : TermsAt w (· < w.heap.size) v L) (hL : L.length ≤ 1000) (hk : ∀ t ∈ L, KitT t) (hl : LibOk w) (hr : rootF L = none) :
    Calls Tryd.prog 17 #[.agg #[v]] w fun e w' => e = .returned (.tuple #[.string ⟨#[]⟩, .int .i64 14]) ∧ Below w.heap.size w w' := by
  have h := f_Print v L w.heap.size w hv (Nat.le_refl _) (by omega) (kit_ok hk) hl
  rw [hr] at h; exact h
def PrsE (L : List Trm) (w : World) (e : Ending) (w' : World) : Prop := ∃ A n c, e = .returned (.tuple #[.agg #[.slice A n c], .int .i64 0, .int .i64 0]) ∧ TermsAt w' (· < w'.heap.size) (.slice A n c) L ∧ Below w.heap.size w w'
theorem f_ParseS (s : ByteArray) (L : List Trm) (w : World) (hs : s.size ≤ 4096) (hl : LibOk w) (hp : parseC (blOf s) = (L, 0, 0)) : Calls Tryd.prog 8 #[.string s] w (PrsE L w) := by
  have h := f_Parse s w (by omega) hl
  rw [hp] at h
  refine h.mono ?_
  rintro e w1 ⟨v, rfl, ht, hb⟩
  obtain ⟨A, n, c, rfl, -⟩ := id ht
  exact ⟨A, n, c, rfl, ht, hb⟩
set_option maxRecDepth 100000 in
set_option maxHeartbeats 4000000 in
theorem f_back_light (A : Option Addr) (n c : Nat) (at_ : Int) (w : World) (hl : LibOk w) (hn : n ≤ 9223372036854775807) (h5 : n ≤ 500) (har : ArgL w (.slice A n c)) : Calls Tryd.prog 7 #[.slice A n c, .int .i64 at_] w (AwkEnd w) := by
  have HL := Lib.hid hl
  have HAR := Lib.hid har
  clear hl har
  go_enter Tryd.func7, Tryd.ntmps7
  go_wp2_with fail
  refine (k_LightT A n c _ hn h5).mono ?_
  rintro e w1 ⟨rfl, rfl⟩
  go_wp2_with fail
  refine (k_Roll _ _ HAR.out).mono ?_
  rintro e w1 ⟨rfl, hd1, hb1⟩
  have hdb := hd1.lt
  have HD1 := Lib.hid hd1
  have HB1 := Lib.hid hb1
  clear hd1 hb1
  go_wp2_with fail
  refine (k_Condition w.heap.size 4 _ HD1.out (by omega)).mono ?_
  rintro e w2 ⟨Aa, na, ca, La, rfl, hTa, hLa, hka, hd2, hg2⟩
  have HTA := Lib.hid hTa
  have HD2 := Lib.hid hd2
  have HG2 := Lib.hid hg2
  have HKA := Lib.hid hka
  have HLA := Lib.hid hLa
  clear hTa hd2 hg2 hka hLa
  go_wp2_with fail
  refine (k_Condition w.heap.size 3 _ HD2.out (by omega)).mono ?_
  rintro e w3 ⟨Ab, nb, cb, Lb, rfl, hTb, hLb, hkb, hd3, hg3⟩
  have hs12 := HG2.out.size
  have hs23 := hg3.size
  have hTa3 : TermsAt w3 (· < w3.heap.size) (.slice Aa na ca) La := (HTA.out.keep fun b hb => hg3.block b hb.2 (by intro e; injection e with e; have := hb.1; omega)).mono fun b hb => Nat.lt_of_lt_of_le hb.2 hs23
  have hTb3 : TermsAt w3 (· < w3.heap.size) (.slice Ab nb cb) Lb := hTb.mono fun b hb => hb.2
  have hlow : Below w.heap.size w w3 := ((HB1.out).grown HG2.out HB1.out.size (fun g hg => by injection hg with hg; omega)).grown hg3 (by have := HB1.out.size; omega) (fun g hg => by injection hg with hg; omega)
  have S3 : BkS w w3 := ⟨HL.out.later hlow, hlow⟩
  have XA : BX (w3.alloc (.cells #[.slice Aa na ca] 24)) w3.heap.size (.slice Aa na ca) La := BX.new hTa3
  have XB : BX ((w3.alloc (.cells #[.slice Aa na ca] 24)).alloc (.cells #[.slice Ab nb cb] 24)) (w3.heap.size + 1) (.slice Ab nb cb) Lb := by
    have := BX.new (terms_step hTb3 (below_alloc w3 (.cells #[.slice Aa na ca] 24)))
    rwa [World.size_alloc] at this
  have hla4 : La.length ≤ 1000 := by have := HLA.out; rw [szK_4] at this; omega
  have hlb4 : Lb.length ≤ 1000 := by rw [szK_3] at hLb; omega
  have HXA := Lib.hid (XA.alloc (.cells #[.slice Ab nb cb] 24))
  have HXB := Lib.hid XB
  have HS4 := Lib.hid ((S3.alloc (.cells #[.slice Aa na ca] 24)).alloc (.cells #[.slice Ab nb cb] 24))
  have HKB := Lib.hid hkb
  have HL4 := Lib.hid (And.intro hla4 hlb4)
  clear hTa3 hTb3 hlow S3 XA XB hla4 hlb4 hkb hd3 hg3 hTb hLb HTA HD2 HG2 HD1 HB1 HL HAR hs12 hs23 hdb
  go_upto_region 5 with fail
  obtain ⟨w4, hw4⟩ : ∃ w4, (w3.alloc (.cells #[.slice Aa na ca] 24)).alloc (.cells #[.slice Ab nb cb] 24) = w4 := ⟨_, rfl⟩
  obtain ⟨ba, hba⟩ : ∃ ba, w3.heap.size = ba := ⟨_, rfl⟩
  rw [hw4, hba] at HXA HXB ⊢
  rw [hw4] at HS4
  clear hw4 hba
  have ca4 := HXA.out.cell
  rcases hra : rootF La with _ | Ta
  · have HRA := Lib.hid hra
    clear hra
    go_wp2_with fail
    refine (f_PrintN _ La w4 HXA.out.2 HL4.out.1 HKA.out HS4.out.lib HRA.out).mono ?_
    rintro e w5 ⟨rfl, hb5⟩
    have HS5 := Lib.hid (HS4.out.step hb5)
    have HXB5 := Lib.hid (HXB.out.step hb5)
    have cb5 := HXB5.out.cell
    clear hb5 ca4
    rcases hrb : rootF Lb with _ | Tb
    · have HRB := Lib.hid hrb
      clear hrb
      go_wp2_with fail
      refine (f_PrintN _ Lb w5 HXB5.out.2 HL4.out.2 HKB.out HS5.out.lib HRB.out).mono ?_
      rintro e w6 ⟨rfl, hb6⟩
      have HS6 := Lib.hid (HS5.out.step hb6)
      clear hb6 cb5
      go_wp2_with fail
      refine (f_awake _ HS6.out.lib).mono ?_
      rintro e w7 ⟨rfl, hb7⟩
      have HS7 := Lib.hid (HS6.out.step hb7)
      clear hb7
      go_wp2_with fail
      go_ret
      exact ⟨rfl, HS7.out.low⟩
    · have HRB := Lib.hid hrb
      clear hrb
      go_wp2_with fail
      refine (f_PrintS _ Lb Tb w5 HXB5.out.2 HL4.out.2 HKB.out HS5.out.lib HRB.out).mono ?_
      rintro e w6 ⟨rfl, hb6⟩
      have HS6 := Lib.hid (HS5.out.step hb6)
      clear hb6 cb5
      go_wp2_with fail
      refine (f_awake _ HS6.out.lib).mono ?_
      rintro e w7 ⟨rfl, hb7⟩
      have HS7 := Lib.hid (HS6.out.step hb7)
      clear hb7
      go_wp2_with fail
      go_ret
      exact ⟨rfl, HS7.out.low⟩
  · have hsl := back_len hra HKA.out
    have hps := back_same hra HKA.out
    have hpw := back_wide hra HKA.out
    have hgo := fun (Tb : Tree) (hrb : rootF Lb = some Tb) => back_inj hra HKA.out hrb HKB.out
    obtain ⟨s, hs⟩ : ∃ s, bsOf (txT 6 Ta) = s := ⟨_, rfl⟩
    have hbs : txT 6 Ta = blOf s := by rw [← hs]; rfl
    rw [hbs] at hsl hps hpw
    rw [blOf_len] at hsl
    have HPS := Lib.hid hps
    have HPW := Lib.hid hpw
    have HGO := Lib.hid hgo
    have HRA := Lib.hid hra
    have HSS := Lib.hid hs
    have HBS := Lib.hid hbs
    clear hps hpw hgo hra hs hbs
    go_wp2_with fail
    refine (f_PrintS _ La Ta w4 HXA.out.2 HL4.out.1 HKA.out HS4.out.lib HRA.out).mono ?_
    rintro e w5 ⟨rfl, hb5⟩
    rw [HSS.out]
    have HS5 := Lib.hid (HS4.out.step hb5)
    have HXA5 := Lib.hid (HXA.out.step hb5)
    have HXB5 := Lib.hid (HXB.out.step hb5)
    have cb5 := HXB5.out.cell
    clear hb5 ca4 HXA HXB HS4
    rcases hrb : rootF Lb with _ | Tb
    · have HRB := Lib.hid hrb
      clear hrb
      go_wp2_with fail
      refine (f_PrintN _ Lb w5 HXB5.out.2 HL4.out.2 HKB.out HS5.out.lib HRB.out).mono ?_
      rintro e w6 ⟨rfl, hb6⟩
      have HS6 := Lib.hid (HS5.out.step hb6)
      clear hb6 cb5
      go_wp2_with fail
      refine (f_awake _ HS6.out.lib).mono ?_
      rintro e w7 ⟨rfl, hb7⟩
      have HS7 := Lib.hid (HS6.out.step hb7)
      clear hb7
      go_wp2_with fail
      go_ret
      exact ⟨rfl, HS7.out.low⟩
    · have hgo := HGO.out Tb hrb
      rw [HBS.out] at hgo
      obtain ⟨u, hu⟩ : ∃ u, bsOf (txT 6 Tb) = u := ⟨_, rfl⟩
      have hbu : txT 6 Tb = blOf u := by rw [← hu]; rfl
      rw [hbu] at hgo
      have HRB := Lib.hid hrb
      have HGI := Lib.hid hgo
      have HUU := Lib.hid hu
      clear hrb hgo hu hbu HGO
      go_wp2_with fail
      refine (f_PrintS _ Lb Tb w5 HXB5.out.2 HL4.out.2 HKB.out HS5.out.lib HRB.out).mono ?_
      rintro e w6 ⟨rfl, hb6⟩
      rw [HUU.out]
      have HS6 := Lib.hid (HS5.out.step hb6)
      have HXA6 := Lib.hid (HXA5.out.step hb6)
      have HXB6 := Lib.hid (HXB5.out.step hb6)
      clear hb6 cb5 HXA5 HXB5 HS5
      go_wp2_with fail
      refine (f_ParseS s La w6 (by omega) HS6.out.lib HPS.out).mono ?_
      rintro e w7 ⟨Ax, nx, cx, rfl, htx, hb7⟩
      have HX7 := Lib.hid (BX.new htx)
      have HS7 := Lib.hid ((HS6.out.step hb7).alloc (.cells #[.slice Ax nx cx] 24))
      have HXA7 := Lib.hid ((HXA6.out.step hb7).alloc (.cells #[.slice Ax nx cx] 24))
      have HXB7 := Lib.hid ((HXB6.out.step hb7).alloc (.cells #[.slice Ax nx cx] 24))
      clear htx hb7 HXA6 HXB6 HS6
      go_upto_region 10 with fail
      obtain ⟨w8, hw8⟩ : ∃ w8, w7.alloc (.cells #[.slice Ax nx cx] 24) = w8 := ⟨_, rfl⟩
      obtain ⟨bx, hbx⟩ : ∃ bx, w7.heap.size = bx := ⟨_, rfl⟩
      rw [hw8, hbx] at HX7 ⊢
      rw [hw8] at HS7 HXA7 HXB7
      clear hw8 hbx
      go_wp2_with fail
      go_loopw [15, 16, 71] (fun v15 v16 v71 wr => ∃ i : Nat, i ≤ s.size ∧ v15 = .string (wdS s i) ∧ v71 = .int .i64 (i : Int) ∧ w8 = wr) (fun _ _ v71 _ => s.size - (intOf v71).toNat)
      case atStart => exact ⟨0, by omega, rfl, rfl, rfl⟩
      case round =>
        obtain ⟨i, hi, rfl, rfl, rfl⟩ := hrel
        have hz := wdS_size s i
        have hz2 : (wdS s i).size ≤ 2460 := by omega
        clear hz
        have z0 : (0 : Int) ≤ (i : Int) := by omega
        by_cases hlt : i < s.size
        · have z1 : (i : Int) < (s.size : Int) := by omega
          have hch := UInt8.toNat_lt s[i]
          have q7 : decide (i < s.size) = true := by simpa using hlt
          have hex : (s.extract i (i + 1)).size ≤ 1 := by rw [ex_one s i hlt]; show (1 : Nat) ≤ 1; omega
          by_cases h40 : s[i] = 40
          · have b1 : ((s[i].toNat : Int) == 40) = true := by rw [h40]; rfl
            have hnx := wdS_sign s i hlt (by rw [h40]; rfl)
            have HNX := Lib.hid hnx
            clear hnx h40
            go_wp2_with fail
            rw [HNX.out]
            go_wp2_with fail
            go_roundw
            case measure => simp [intOf]; omega
            case rel => exact ⟨i + 1, by omega, rfl, by go_num, (by first | rfl | trivial)⟩
          · have b1 : ((s[i].toNat : Int) == 40) = false := u8_ne (n := 40) (by decide) h40
            by_cases h41 : s[i] = 41
            · have b2 : ((s[i].toNat : Int) == 41) = true := by rw [h41]; rfl
              have hnx := wdS_sign s i hlt (by rw [h41]; rfl)
              have HNX := Lib.hid hnx
              clear hnx h40 h41
              go_wp2_with fail
              rw [HNX.out]
              go_wp2_with fail
              go_roundw
              case measure => simp [intOf]; omega
              case rel => exact ⟨i + 1, by omega, rfl, by go_num, (by first | rfl | trivial)⟩
            · have b2 : ((s[i].toNat : Int) == 41) = false := u8_ne (n := 41) (by decide) h41
              by_cases h44 : s[i] = 44
              · have b3 : ((s[i].toNat : Int) == 44) = true := by rw [h44]; rfl
                have hnx := wdS_sign s i hlt (by rw [h44]; rfl)
                have HNX := Lib.hid hnx
                clear hnx h40 h41 h44
                go_wp2_with fail
                rw [HNX.out]
                go_wp2_with fail
                go_roundw
                case measure => simp [intOf]; omega
                case rel => exact ⟨i + 1, by omega, rfl, by go_num, (by first | rfl | trivial)⟩
              · have b3 : ((s[i].toNat : Int) == 44) = false := u8_ne (n := 44) (by decide) h44
                have hnx := wdS_plain s i hlt (by unfold signB; simp [h40, h41, h44])
                have HNX := Lib.hid hnx
                clear hnx h40 h41 h44
                go_wp2_with fail
                rw [HNX.out]
                go_wp2_with fail
                go_roundw
                case measure => simp [intOf]; omega
                case rel => exact ⟨i + 1, by omega, rfl, by go_num, (by first | rfl | trivial)⟩
        · have hin : i = s.size := by omega
          have z1 : ¬ (i : Int) < (s.size : Int) := by omega
          have hwa := wdS_all s
          rw [← hin] at hwa
          have HWA := Lib.hid hwa
          clear hwa hin
          go_wp2_with fail
          have hsz1 : ((⟨#[32]⟩ : ByteArray) ++ wdS s i).size ≤ 4096 := by rw [ByteArray.size_append, show (⟨#[32]⟩ : ByteArray).size = 1 from rfl]; omega
          refine (f_ParseS _ La w8 hsz1 HS7.out.lib (by rw [HWA.out]; exact HPW.out)).mono ?_
          rintro e w9 ⟨Ay, ny, cy, rfl, hty, hb9⟩
          have HY9 := Lib.hid (BX.new hty)
          have HS9 := Lib.hid ((HS7.out.step hb9).alloc (.cells #[.slice Ay ny cy] 24))
          have HXA9 := Lib.hid ((HXA7.out.step hb9).alloc (.cells #[.slice Ay ny cy] 24))
          have HXB9 := Lib.hid ((HXB7.out.step hb9).alloc (.cells #[.slice Ay ny cy] 24))
          have HXX9 := Lib.hid ((HX7.out.step hb9).alloc (.cells #[.slice Ay ny cy] 24))
          clear hty hb9 HXA7 HXB7 HS7 HX7 hsz1
          go_upto_region 19 with fail
          obtain ⟨w10, hw10⟩ : ∃ w10, w9.alloc (.cells #[.slice Ay ny cy] 24) = w10 := ⟨_, rfl⟩
          obtain ⟨y9, hy9⟩ : ∃ y9, w9.heap.size = y9 := ⟨_, rfl⟩
          rw [hw10, hy9] at HY9 ⊢
          rw [hw10] at HS9 HXA9 HXB9 HXX9
          clear hw10 hy9
          have hLa := HL4.out.1
          have hLb := HL4.out.2
          have m1 := HXA9.out.cell
          have m2 := HXX9.out.cell
          go_wp2_with fail
          refine (r_SameC _ _ La La _ HXX9.out.2 HXA9.out.2 (by omega) (by omega) (kit_args_le HKA.out) (kit_args_le HKA.out)).mono ?_
          rintro e w11 ⟨b1, rfl, hq1, hbl1⟩
          obtain rfl : b1 = true := hq1.2 rfl
          have HS11 := Lib.hid (HS9.out.step hbl1)
          have HXA11 := Lib.hid (HXA9.out.step hbl1)
          have HXB11 := Lib.hid (HXB9.out.step hbl1)
          have HY11 := Lib.hid (HY9.out.step hbl1)
          have p1 := HXA11.out.cell
          have p2 := HY11.out.cell
          clear m1 m2 hbl1 hq1 HXA9 HXB9 HXX9 HY9 HS9
          go_wp2_with fail
          refine (r_SameC _ _ La La _ HY11.out.2 HXA11.out.2 (by omega) (by omega) (kit_args_le HKA.out) (kit_args_le HKA.out)).mono ?_
          rintro e w12 ⟨b2, rfl, hq2, hbl2⟩
          obtain rfl : b2 = true := hq2.2 rfl
          have HS12 := Lib.hid (HS11.out.step hbl2)
          have HXA12 := Lib.hid (HXA11.out.step hbl2)
          have HXB12 := Lib.hid (HXB11.out.step hbl2)
          have n1 := HXA12.out.cell
          have n2 := HXB12.out.cell
          clear p1 p2 hbl2 hq2 HXA11 HXB11 HY11 HS11
          by_cases hab : La = Lb
          · have hsu : (s.toList == u.toList) = true := seq_true (blOf_inj (HGI.out.2 hab))
            have HAB := Lib.hid hab
            clear hab
            go_wp2_with fail
            refine (r_SameC _ _ La Lb _ HXA12.out.2 HXB12.out.2 (by omega) (by omega) (kit_args_le HKA.out) (kit_args_le HKB.out)).mono ?_
            rintro e w13 ⟨b3, rfl, hq3, hbl3⟩
            obtain rfl : b3 = true := hq3.2 HAB.out
            have HS13 := Lib.hid (HS12.out.step hbl3)
            clear n1 n2 hbl3 hq3
            go_wp2_with fail
            refine (f_awake _ HS13.out.lib).mono ?_
            rintro e w14 ⟨rfl, hb14⟩
            have HS14 := Lib.hid (HS13.out.step hb14)
            clear hb14
            go_wp2_with fail
            go_ret
            exact ⟨rfl, HS14.out.low⟩
          · have hsu : (s.toList == u.toList) = false := seq_false (fun h => hab (HGI.out.1 h))
            have HAB := Lib.hid hab
            clear hab
            go_wp2_with fail
            refine (r_SameC _ _ La Lb _ HXA12.out.2 HXB12.out.2 (by omega) (by omega) (kit_args_le HKA.out) (kit_args_le HKB.out)).mono ?_
            rintro e w13 ⟨b3, rfl, hq3, hbl3⟩
            obtain rfl : b3 = false := by
              cases b3
              · rfl
              · exact absurd (hq3.1 rfl) HAB.out
            have HS13 := Lib.hid (HS12.out.step hbl3)
            clear n1 n2 hbl3 hq3
            go_wp2_with fail
            refine (f_awake _ HS13.out.lib).mono ?_
            rintro e w14 ⟨rfl, hb14⟩
            have HS14 := Lib.hid (HS13.out.step hb14)
            clear hb14
            go_wp2_with fail
            go_ret
            exact ⟨rfl, HS14.out.low⟩
theorem f_back (A : Option Addr) (n c : Nat) (at_ : Int) (w : World) (hl : LibOk w) (hn : n ≤ 9223372036854775807) (har : n ≤ 500 → ArgL w (.slice A n c)) : Calls Tryd.prog 7 #[.slice A n c, .int .i64 at_] w (AwkEnd w) := by
  by_cases h5 : n ≤ 500
  · exact f_back_light A n c at_ w hl hn h5 (har h5)
  · exact f_back_heavy A n c at_ w hl hn h5
end Go.Proofs.YthfmmememdlekaaDoor
