/- Contracts: the tree of a condition; whether a condition is valid. Contracts: the text of a tree. -/
import Derived.Test.YtgeahbmaeaoeeaaGreatDoorQ16
import Derived.Test.YtgeahbmaeaoeeaaGreatDoorQ13
set_option linter.unusedVariables false
set_option linter.unusedSimpArgs false
namespace Go.Proofs.YtgeahbmaeaoeeaaGreatDoor
open Go.RowKit Num

set_option maxRecDepth 100000 in
set_option maxHeartbeats 4000000 in
theorem f_grow_zero (A : Option Addr) (n c at_ : Nat) (w : World) (hat : at_ < n) (hn : n ≤ 1000000) :
    Calls Tryz.prog 119 #[.slice A n c, .int .i64 (at_ : Int), .int .i64 0] w (GrowNo w) := by
  have q0 : decide ((n : Int) ≤ (at_ : Int)) = false := by simp; omega
  have q00 : decide (n ≤ at_) = false := by simp; omega
  go_enter Tryz.func119, Tryz.ntmps119
  go_wp2_with fail
  go_quiet (fail)
  go_wp2_with fail
  go_ret3
  exact ⟨rfl, only_drewB _ _ _⟩
theorem trmAt_get {L : List Trm} {k : Nat} (h : k < L.length) : L[k]? = some (trmAt L k) := by
  unfold trmAt; rw [List.getD_eq_getElem?_getD, List.getElem?_eq_getElem h]; rfl
theorem f_grow (L : List Trm) (hL : L.length ≤ 1000000) (hok : ∀ t ∈ L, TrmOk t) : ∀ (d : Nat), d ≤ 1000 → ∀ (v : Value) (at_ B : Nat) (w : World), TermsAt w (· < B) v L → B ≤ w.heap.size → at_ ≤ 1000000 →
    Calls Tryz.prog 119 #[v, .int .i64 (at_ : Int), .int .i64 (d : Int)] w (GrowPost w B d (growF L d at_)) := by
  intro d
  induction d with
  | zero =>
    intro hd v at_ B w hv hB hat
    obtain ⟨A, n, c, rfl, hn, hnc, h4⟩ := hv
    rcases Nat.lt_or_ge at_ n with h | h
    · exact (f_grow_zero A n c at_ w h (by omega))
    · exact (f_grow_out A n c at_ 0 w h (by omega) (by omega) hat)
  | succ d ih =>
    intro hd v at_ B w hv hB hat
    have hv0 := hv
    obtain ⟨A, n, c, rfl, hn, hnc, h4⟩ := hv
    unfold growF
    rcases Nat.lt_or_ge at_ n with h | h
    · obtain ⟨b, off, hA, hbB, hc⟩ := h4 (by omega)
      have hT := hc at_ h
      have hg := trmAt_get (L := L) (k := at_) (by omega)
      rw [hg]
      have hm : trmAt L at_ ∈ L := List.mem_of_getElem? hg
      obtain ⟨o1, o2, o3⟩ := hok _ hm
      generalize trmAt L at_ = t at *
      simp only
      cases hb : bareB t with
      | false => exact (f_grow_bare A n c b off at_ (d + 1) B t w hA (by omega) h (by omega) (by omega) hd hT o1 o2 hb)
      | true =>
        cases ha : argsOk t with
        | false =>
          unfold argsOk at ha
          cases hs : (severalB t.kind == decide (0 < t.args.length)) with
          | false => exact (f_grow_sev A n c b off at_ (d + 1) B t w hA (by omega) h (by omega) (by omega) hd hT o1 o2 hb (by omega) hs)
          | true =>
            rw [hs] at ha
            have h1 : t.args.length = 1 := by simpa using ha
            have h2 : severalB t.kind = true := by simpa [h1] using hs
            exact (f_grow_one A n c b off at_ (d + 1) B t w hA (by omega) h (by omega) (by omega) hd hT o1 o2 hb h2 h1)
        | true =>
          have := f_grow_main L d (d + 1) rfl (ih (by omega)) A n c b off at_ B t w hv0 hB hA (by omega) h (by omega) hd hT o1 o2 o3 hb ha
          simp only [Bool.and_self, if_true]
          cases hga : growA (growF L d) t.args (at_ + 1) with
          | none => rw [hga] at this; exact this
          | some r => rw [hga] at this; exact this
    · rw [List.getElem?_eq_none (by omega)]
      exact (f_grow_out A n c at_ (d + 1) w h (by omega) (by omega) hat)
def RootPost (w : World) (B : Nat) : Option Tree → Ending → World → Prop
  | none => fun e w' => ∃ v, e = .returned (.tuple #[v, .bool false]) ∧ Below w.heap.size w w'
  | some T => fun e w' => ∃ v, e = .returned (.tuple #[v, .bool true]) ∧ TreeAt w' (fun c => c < B ∨ (w.heap.size ≤ c ∧ c < w'.heap.size)) 6 v T ∧ Below w.heap.size w w'
set_option maxRecDepth 100000 in
set_option maxHeartbeats 4000000 in
theorem f_root (v : Value) (L : List Trm) (B : Nat) (w : World) (hv : TermsAt w (· < B) v L) (hB : B ≤ w.heap.size) (hL : L.length ≤ 1000000) (hok : ∀ t ∈ L, TrmOk t) :
    Calls Tryz.prog 99 #[.agg #[v]] w (RootPost w B (rootF L)) := by
  obtain ⟨A, n, c, rfl, hn, hnc, h4⟩ := id hv
  have hv2 : TermsAt (w.alloc (.cells #[.slice A n c] 58)) (· < B) (.slice A n c) L := hv.keep fun b hb => Below.heap_alloc w _ b (by omega)
  have HV := Lib.hid hv2
  have HN := Lib.hid hn
  have n1 : n ≤ 1000000 := by omega
  have HL := Lib.hid hL
  have HOK := Lib.hid hok
  clear hv hv2 hn h4 hL hok hnc
  by_cases h24 : n ≤ 24
  · have hb1 : Below w.heap.size w (w.alloc (.cells #[.slice A n c] 58)) := (Below.refl _ _).alloc (Nat.le_refl _) _
    have HB1 := Lib.hid hb1
    have e : rootF L = (match growF L 6 0 with | none => none | some (t, m) => if m = n then some t else none) := by
      unfold rootF
      rw [if_pos (by have := HN.out; omega)]
      cases growF L 6 0 with
      | none => rfl
      | some r => obtain ⟨t, m⟩ := r; simp only; rw [HN.out]
    have HE := Lib.hid e
    clear hb1 e
    cases hg : growF L 6 0 with
    | none =>
      have HG := Lib.hid hg
      clear hg
      go_enter Tryz.func99, Tryz.ntmps99
      go_wp2_with fail
      refine (f_grow L HL.out HOK.out 6 (by omega) _ 0 B _ HV.out (by simp; omega) (by omega)).mono ?_
      rw [HG.out]
      rintro e w1 ⟨rfl, hb2⟩
      go_wp2_with fail
      go_quiet (fail)
      go_wp2_with fail
      go_ret2
      rw [HE.out, HG.out]
      exact ⟨_, rfl, (HB1.out.trans (hb2.mono (by simp))).trans (only_drewB _ _ _)⟩
    | some r =>
      obtain ⟨T, m⟩ := r
      have hm := (flat_grow 6 hg).2.2
      have hm2 : m ≤ n := by have := HN.out; omega
      have HG := Lib.hid hg
      clear hg hm
      go_enter Tryz.func99, Tryz.ntmps99
      go_wp2_with fail
      refine (f_grow L HL.out HOK.out 6 (by omega) _ 0 B _ HV.out (by simp; omega) (by omega)).mono ?_
      rw [HG.out]
      rintro e w1 ⟨p, rfl, ht, hb2⟩
      obtain ⟨pb, rfl, -⟩ := ht.ptr
      have cc : w1.cell? ⟨w.heap.size, 0, none⟩ = some (.slice A n c) := (hb2.cell (p := ⟨w.heap.size, 0, none⟩) (by simp)).trans (by simp)
      have ht2 : ∀ q, TreeAt (w1.drewN q) (fun c => c < B ∨ (w.heap.size ≤ c ∧ c < w1.heap.size)) 6 (.pointer (some ⟨pb, 0, none⟩)) T := fun q => (TreeAt.keep (w := w1) (w' := w1.drewN q) (fun b _ => rfl) (ht.mono (S' := fun c => c < B ∨ (w.heap.size ≤ c ∧ c < w1.heap.size)) fun b hb => by
        rcases hb with h | ⟨h1, h2⟩
        · exact .inl h
        · exact .inr ⟨by simp at h1; omega, h2⟩))
      have HT := Lib.hid ht2
      clear ht ht2
      by_cases hmn : m = n
      · have q1 : ((m : Int) == (n : Int)) = true := by simp [hmn]
        have q2 : (m == n) = true := by simp [hmn]
        have HMN := Lib.hid hmn
        clear hmn
        go_wp2_with fail
        go_quiet (fail)
        go_wp2_with fail
        go_ret2
        rw [HE.out, HG.out]
        show RootPost w B (if m = n then some T else none) _ _
        rw [if_pos HMN.out]
        exact ⟨_, rfl, HT.out _, (HB1.out.trans (hb2.mono (by simp))).trans (only_drewB _ _ _)⟩
      · have q1 : ((m : Int) == (n : Int)) = false := by rw [beq_eq_false_iff_ne]; omega
        have q2 : (m == n) = false := by simpa using hmn
        have HMN := Lib.hid hmn
        clear hmn
        go_wp2_with fail
        go_quiet (fail)
        go_wp2_with fail
        go_ret2
        rw [HE.out, HG.out]
        show RootPost w B (if m = n then some T else none) _ _
        rw [if_neg HMN.out]
        exact ⟨_, rfl, (HB1.out.trans (hb2.mono (by simp))).trans (only_drewB _ _ _)⟩
  · have e : rootF L = none := by unfold rootF; rw [if_neg (by have := HN.out; omega)]
    have q24 : (24 : Int) < (n : Int) := by omega
    rw [e]
    go_enter Tryz.func99, Tryz.ntmps99
    go_wp2_with fail
    go_ret2
    exact ⟨_, rfl, (Below.refl _ _).alloc (Nat.le_refl _) _⟩
/-- A condition is valid. -/
def rightB (L : List Trm) : Bool := (rootF L).isSome
end Go.Proofs.YtgeahbmaeaoeeaaGreatDoor
namespace Go.Proofs.YtgeahbmaeaoeeaaGreatDoor
open Go.RowKit Num

abbrev txT (d : Nat) (T : Tree) : List UInt8 := textG [] [] d T
theorem txT_node (d : Nat) (t : Trm) (xs : List Tree) : txT (d + 1) (.node t xs) =
    if t.kind = 1 ∨ t.kind = 2 then nmK t.kind ++ [40] ++ joinS [44, 32] (xs.map (txT d)) ++ [41]
    else if t.kind = 3 ∨ t.kind = 4 then nmK t.kind ++ [32] ++ Lib.itoa t.num
    else if t.kind = 5 then nmK 5 ++ [32] ++ Lib.itoa t.yrs ++ [32] ++ ofB ++ [32] ++ Lib.itoa t.num
    else if t.kind = 7 then nmK 7 ++ [32] ++ blOf t.field ++ [32, 34] ++ blOf t.text ++ [34, 32] ++ ofB ++ [32] ++ Lib.itoa t.num
    else nmK t.kind := rfl
theorem nm_len (k : Int) (h1 : 1 ≤ k) (h2 : k ≤ 8) : (nmK k).length ≤ 11 := by
  have : ∀ j : Fin 9, (nmK (j.val : Int)).length ≤ 11 := by decide
  obtain ⟨m, rfl⟩ := Int.eq_ofNat_of_zero_le (show 0 ≤ k by omega)
  exact this ⟨m, by omega⟩
theorem names_cell {w : World} {v : Value} (h : StrsAt' w v nmB) (k : Int) (h1 : 0 ≤ k) (h2 : k ≤ 8) : ∃ g off c, v = .slice (some ⟨g, off, none⟩) 9 c ∧ g < w.heap.size ∧ w.cell? ⟨g, off + k.toNat, none⟩ = some (.string (bsOf (nmK k))) := by
  obtain ⟨g, off, n, c, rfl, hn, hg, hc⟩ := h
  have hn9 : n = 9 := hn
  subst hn9
  exact ⟨g, off, c, rfl, hg, hc k.toNat (by omega)⟩
theorem joinS_join (sep : List UInt8) (xs : List (List UInt8)) : Lib.join xs sep = joinS sep xs := by
  cases xs with
  | nil => rfl
  | cons a r => exact Lib.join_cons a r sep
theorem bsOf_app (a b : List UInt8) : bsOf a ++ bsOf b = bsOf (a ++ b) := bapp a b
theorem bsOf_data (l : List UInt8) : (bsOf l).size = l.length := by show l.toArray.size = _; simp
set_option maxRecDepth 100000 in
set_option maxHeartbeats 4000000 in
theorem f_text_word (b : Nat) (k : Int) (w : World) (hk : k = 6 ∨ k = 8) (hb : b < w.heap.size) (c0 : w.cell? ⟨b, 0, none⟩ = some (.int .i64 k)) :
    Calls Tryz.prog 100 #[.pointer (some ⟨b, 0, none⟩)] w (StrBel (nmK k) w) := by
  have KS := Lib.hid (fun (W : World) (hW : Below w.heap.size w W) => (⟨(hW.cell (p := ⟨b, 0, none⟩) hb).trans c0, Lib.hid hW⟩ : W.cell? ⟨b, 0, none⟩ = some (.int .i64 k) ∧ Hid (Below w.heap.size w W)))
  have c0d : w.drew.cell? ⟨b, 0, none⟩ = some (.int .i64 k) := c0
  have KB : 0 ≤ k ∧ k ≤ 8 := by omega
  rcases hk with rfl | rfl
  all_goals
    go_enter Tryz.func100, Tryz.ntmps100
    go_wp2_with fail
    go_region_law (first
      | ((try go_simp); go_at_call 120; (refine (f_names _).mono ?_); rintro e wk ⟨v, rfl, hv, hbk⟩; have HK := Lib.hid (KS.out wk ((Below.refl w.heap.size w).drew.trans hbk)); obtain ⟨g, off, c, rfl, hg, hc⟩ := names_cell hv _ KB.1 KB.2; have k0 := HK.out.1; (try simp only [Int.reduceToNat] at hc); have HC := hc; clear hv hbk; go_simp))
    all_goals
      go_wp2_with fail
      go_ret
      exact ⟨rfl, HK.out.2.out⟩
theorem itoa_small (n : Int) (h0 : 0 ≤ n) (h1 : n ≤ 100) : (Lib.itoa n).length ≤ 3 := by
  obtain ⟨m, rfl⟩ := Int.eq_ofNat_of_zero_le h0
  rw [itoa_dec3 m (by omega)]
  exact (dec3_all ⟨m, by omega⟩).2.1
set_option maxRecDepth 100000 in
set_option maxHeartbeats 4000000 in
theorem f_text_num (b : Nat) (k n : Int) (w : World) (hk : k = 3 ∨ k = 4) (hn0 : 0 ≤ n) (hn1 : n ≤ 100) (hl : LibOk w) (hb : b < w.heap.size) (c0 : w.cell? ⟨b, 0, none⟩ = some (.int .i64 k)) (c1 : w.cell? ⟨b, 1, none⟩ = some (.int .i64 n)) :
    Calls Tryz.prog 100 #[.pointer (some ⟨b, 0, none⟩)] w (StrBel (nmK k ++ [32] ++ Lib.itoa n) w) := by
  have KS := Lib.hid (fun (W : World) (hW : Below w.heap.size w W) => (⟨(hW.cell (p := ⟨b, 0, none⟩) hb).trans c0, (hW.cell (p := ⟨b, 1, none⟩) hb).trans c1, Lib.hid hW, Lib.hid (hl.later hW)⟩ : W.cell? ⟨b, 0, none⟩ = some (.int .i64 k) ∧ W.cell? ⟨b, 1, none⟩ = some (.int .i64 n) ∧ Hid (Below w.heap.size w W) ∧ Hid (LibOk W)))
  have c0d : w.drew.cell? ⟨b, 0, none⟩ = some (.int .i64 k) := c0
  have KB : 0 ≤ k ∧ k ≤ 8 := by omega
  have hnl := nm_len k (by omega) (by omega)
  have s1 : (bsOf (nmK k)).size ≤ 11 := by rw [bsOf_data]; exact hnl
  have s2 : (bsOf (Lib.itoa n)).size ≤ 3 := by rw [bsOf_data]; exact itoa_small n hn0 hn1
  rcases hk with rfl | rfl
  all_goals
    go_enter Tryz.func100, Tryz.ntmps100
    go_wp2_with fail
    go_region_law (first
      | ((try go_simp); go_at_call 120; (refine (f_names _).mono ?_); rintro e wk ⟨v, rfl, hv, hbk⟩; have HK := Lib.hid (KS.out wk ((Below.refl w.heap.size w).drew.trans hbk)); obtain ⟨g, off, c, rfl, hg, hc⟩ := names_cell hv _ KB.1 KB.2; have k0 := HK.out.1; (try simp only [Int.reduceToNat] at hc); have HC := hc; clear hv hbk; go_simp))
    all_goals
      have k1 := HK.out.2.1
      go_wp2_with (go_at_call 122; refine (i_Itoa n _ HK.out.2.2.2.out.tab (by omega) (by omega)).mono ?_; rintro e w2 ⟨rfl, hb2⟩)
      go_ret
      refine ⟨?_, HK.out.2.2.1.out.trans (hb2.mono HK.out.2.2.1.out.size)⟩
      exact congrArg (fun x : ByteArray => Ending.returned (.string x)) (by show bsOf _ ++ bsOf [32] ++ bsOf _ = _; rw [bsOf_app, bsOf_app])
end Go.Proofs.YtgeahbmaeaoeeaaGreatDoor
