/- Plain: the trees of a term's arguments, by their numbers. Contracts: the reference's walk over the terms of a condition. Contracts: whether a condition is valid, as the reference says it. Contracts: the reference's text of a condition, of terms with parts too. -/
import Derived.Test.YtgbhaaongmlpkaaGreatDoorX25
import Derived.Test.YtgbhaaongmlpkaaGreatDoorX15
import Derived.Test.YtgbhaaongmlpkaaGreatDoorX24
set_option linter.unusedVariables false
set_option linter.unusedSimpArgs false
namespace Go.Proofs.YtgbhaaongmlpkaaGreatDoor
open Go.RowKit Num

theorem growA_at {l : List Trm} {d : Nat} : ∀ {ks : List Int} {nx : Nat} {xs : List Tree} {n : Nat}, growA (growF l d) ks nx = some (xs, n) → ∀ (j : Nat) (a : Int), ks[j]? = some a → ∃ (k : Nat) (x : Tree) (m : Nat), a = (k : Int) ∧ growF l d k = some (x, m) ∧ xs[j]? = some x := by
  intro ks
  induction ks with
  | nil => intro nx xs n h j a ha; simp at ha
  | cons k ks ih =>
    intro nx xs n h j a ha
    unfold growA at h
    split at h
    · rename_i hk
      split at h
      · cases h
      · rename_i x af hx
        split at h
        · cases h
        · rename_i xs' n' hr
          injection h with h; injection h with h1 h2; subst h1
          cases j with
          | zero =>
            simp at ha
            exact ⟨nx, x, af, by rw [← ha]; exact hk, hx, rfl⟩
          | succ j =>
            simp at ha
            obtain ⟨k', x', m', e1, e2, e3⟩ := ih hr j a ha
            exact ⟨k', x', m', e1, e2, by simpa using e3⟩
    · cases h
/-- The arguments' texts, in their order. -/
theorem growA_txts {l : List Trm} {d : Nat} {ks : List Int} {nx : Nat} {xs : List Tree} {n : Nat} (h : growA (growF l d) ks nx = some (xs, n)) : xs.length = ks.length := growA_len h
end Go.Proofs.YtgbhaaongmlpkaaGreatDoor
namespace Go.Proofs.YtgbhaaongmlpkaaGreatDoor
open Go.RowKit Num

def walkR (o : Option (List Tree × Nat)) : Int := match o with
  | none => -1
  | some (_, n) => (n : Int)
theorem walkR_cons (g : Nat → Option (Tree × Nat)) (a : Int) (r : List Int) (nx : Nat) :
    walkR (growA g (a :: r) nx) = if a = (nx : Int) then (match g nx with | none => -1 | some (_, af) => walkR (growA g r af)) else -1 := by
  conv => lhs; unfold growA
  by_cases h : a = (nx : Int)
  · rw [if_pos h, if_pos h]
    cases g nx with
    | none => rfl
    | some p =>
      obtain ⟨x, af⟩ := p
      simp only
      cases growA g r af with
      | none => rfl
      | some q => obtain ⟨xs, n⟩ := q; rfl
  · rw [if_neg h, if_neg h]; rfl
theorem walkI_growF {l : List Trm} {d k : Nat} {t : Trm} (h : l[k]? = some t) : walkI (growF l (d + 1) k) = if rtermB t then walkR (growA (growF l d) t.args (k + 1)) else -1 := by
  unfold growF
  rw [h, rterm_eq]
  simp only
  split
  · cases growA (growF l d) t.args (k + 1) with
    | none => rfl
    | some q => obtain ⟨xs, n⟩ := q; rfl
  · rfl
theorem growF_after {l : List Trm} : ∀ {d k : Nat} {T : Tree} {n : Nat}, growF l d k = some (T, n) → n ≤ l.length := by
  intro d k T n h
  have := (flat_grow d h).2
  omega
theorem LibOk_of {w w' : World} {N : Nat} (h : LibOk w) (hb : Below N w w') (hN : N = w.heap.size) : LibOk w' := by subst hN; exact h.later hb
theorem SpcOk_of {w w' : World} {N : Nat} (h : SpcOk w) (hb : Below N w w') (hN : N = w.heap.size) (h0 : 2 < w.heap.size) : SpcOk w' := by subst hN; exact spc_below h h0 hb
set_option maxRecDepth 100000 in
set_option maxHeartbeats 4000000 in
theorem r_walk_out (A : Option Addr) (n c at_ : Nat) (dp : Int) (w : World) (hat : n ≤ at_) (hn : at_ ≤ 1000000) :
    Calls Tryz.prog 87 #[.agg #[.slice A n c], .int .i64 (at_ : Int), .int .i64 dp] w (IntBel (-1) w) := by
  have q0 : (n : Int) ≤ (at_ : Int) := by omega
  have hb1 : Below w.heap.size w (w.alloc (.cells #[.slice A n c] 33)) := (Below.refl _ _).alloc (Nat.le_refl _) _
  have HB1 := Lib.hid hb1
  clear hb1
  go_enter Tryz.func87, Tryz.ntmps87
  go_wp2_with fail
  go_ret
  exact ⟨rfl, HB1.out⟩
set_option maxRecDepth 100000 in
set_option maxHeartbeats 4000000 in
theorem r_walk_deep (A : Option Addr) (n c at_ : Nat) (w : World) (hat : at_ < n) (hn : n ≤ 1000000) :
    Calls Tryz.prog 87 #[.agg #[.slice A n c], .int .i64 (at_ : Int), .int .i64 7] w (IntBel (-1) w) := by
  have q0 : ¬ (n : Int) ≤ (at_ : Int) := by omega
  have hb1 : Below w.heap.size w (w.alloc (.cells #[.slice A n c] 33)) := (Below.refl _ _).alloc (Nat.le_refl _) _
  have HB1 := Lib.hid hb1
  clear hb1
  go_enter Tryz.func87, Tryz.ntmps87
  go_wp2_with fail
  go_ret
  exact ⟨rfl, HB1.out⟩
set_option maxRecDepth 100000 in
set_option maxHeartbeats 4000000 in
theorem r_walk_term (A : Option Addr) (n c b off at_ B : Nat) (dp : Nat) (t : Trm) (w : World) (hA : A = some ⟨b, off, none⟩) (hb : b < w.heap.size) (hat : at_ < n) (hn : n ≤ 1000000) (hdp : dp ≤ 6) (hT : TermAt w (· < B) b (off + at_ * 6) t)
    (hf : t.field.size ≤ 4294967296) (hx : t.text.size ≤ 4294967296) (hl : LibOk w) (hsp : SpcOk w) (hbare : rtermB t = false) :
    Calls Tryz.prog 87 #[.agg #[.slice A n c], .int .i64 (at_ : Int), .int .i64 (dp : Int)] w (IntBel (-1) w) := by
  subst hA
  have q0 : ¬ (n : Int) ≤ (at_ : Int) := by omega
  have q1 : ¬ (6 : Int) < (dp : Int) := by omega
  have q2 : (0 : Int) ≤ (at_ : Int) := by omega
  have q3 : (at_ : Int) < (n : Int) := by omega
  have hb1 : Below w.heap.size w (w.alloc (.cells #[.slice (some ⟨b, off, none⟩) n c] 33)) := (Below.refl _ _).alloc (Nat.le_refl _) _
  have hl1 := hl.later hb1
  have hs1 := spc_below hsp (by have := hl.size; show 2 < _; omega) hb1
  obtain ⟨tk, tn, ty, tf, tt, ta⟩ := t
  obtain ⟨c0, c1, c2, c3, c4, u5, c5, Aa, na, ca, rfl, hna, hca, hcell⟩ := hT
  have HB1 := Lib.hid hb1
  have HL1 := Lib.hid hl1
  have HS1 := Lib.hid hs1
  have HNA := Lib.hid hna
  have HB := Lib.hid hbare
  clear hb1 hl1 hs1 hl hsp hna hcell hbare
  go_enter Tryz.func87, Tryz.ntmps87
  go_wp2_with (go_at_call 101; refine (r_term tk tn ty tf tt _ _ _ ta _ HNA.out hf hx HL1.out HS1.out).mono ?_; rintro e w2 ⟨rfl, hb2⟩; rw [HB.out])
  go_ret
  exact ⟨rfl, HB1.out.trans (hb2.mono (by simp))⟩
set_option maxRecDepth 100000 in
set_option maxHeartbeats 4000000 in
theorem r_walk_main (L : List Trm) (d dp : Nat) (hdp : d + 1 + dp = 7)
    (ih : ∀ (v : Value) (at_ B : Nat) (w : World), TermsAt w (· < B) v L → B ≤ w.heap.size → at_ ≤ 1000000 → LibOk w → SpcOk w →
      Calls Tryz.prog 87 #[.agg #[v], .int .i64 (at_ : Int), .int .i64 ((dp : Int) + 1)] w (IntBel (walkI (growF L d at_)) w))
    (A : Option Addr) (n c b off at_ B : Nat) (t : Trm) (w : World) (hv : TermsAt w (· < B) (.slice A n c) L) (hB : B ≤ w.heap.size) (hA : A = some ⟨b, off, none⟩) (hb : b < w.heap.size) (hat : at_ < n) (hn : n ≤ 1000000) (hnL : n = L.length) (hT : TermAt w (· < B) b (off + at_ * 6) t)
    (hf : t.field.size ≤ 4294967296) (hx : t.text.size ≤ 4294967296) (hlen : t.args.length ≤ 1000000) (hl : LibOk w) (hsp : SpcOk w) (hbare : rtermB t = true) :
    Calls Tryz.prog 87 #[.agg #[.slice A n c], .int .i64 (at_ : Int), .int .i64 (dp : Int)] w (IntBel (walkR (growA (growF L d) t.args (at_ + 1))) w) := by
  subst hA
  have q0 : ¬ (n : Int) ≤ (at_ : Int) := by omega
  have q1 : ¬ (6 : Int) < (dp : Int) := by omega
  have q2 : (0 : Int) ≤ (at_ : Int) := by omega
  have q3 : (at_ : Int) < (n : Int) := by omega
  have hb1 : Below w.heap.size w (w.alloc (.cells #[.slice (some ⟨b, off, none⟩) n c] 33)) := (Below.refl _ _).alloc (Nat.le_refl _) _
  have hl1 := hl.later hb1
  have hs1 := spc_below hsp (by have := hl.size; show 2 < _; omega) hb1
  have hc0 : (w.alloc (.cells #[.slice (some ⟨b, off, none⟩) n c] 33)).cell? ⟨w.heap.size, 0, none⟩ = some (.slice (some ⟨b, off, none⟩) n c) := (Blk.new w 33 #[.slice (some ⟨b, off, none⟩) n c]).cell 0
  obtain ⟨tk, tn, ty, tf, tt, ta⟩ := t
  obtain ⟨c0, c1, c2, c3, c4, u5, c5, Aa, na, ca, rfl, hna, hca, hcell⟩ := hT
  have hna1 : na ≤ 1000000 := by simp only at hna hlen; omega
  have hdp6 : dp ≤ 6 := by omega
  have HB1 := Lib.hid hb1
  have HL1 := Lib.hid hl1
  have HS1 := Lib.hid hs1
  have HC0 := Lib.hid hc0
  have HNA := Lib.hid hna
  have HNL := Lib.hid hnL
  have HB := Lib.hid hbare
  have HIH := Lib.hid ih
  have HV := Lib.hid hv
  have HCELL := Lib.hid hcell
  clear hb1 hl1 hs1 hl hsp hna hcell hbare ih hv hc0 hnL hlen hdp
  go_enter Tryz.func87, Tryz.ntmps87
  go_wp2_with (go_at_call 101; refine (r_term tk tn ty tf tt _ _ _ ta _ HNA.out hf hx HL1.out HS1.out).mono ?_; rintro e w2 ⟨rfl, hb2⟩; rw [HB.out]; obtain ⟨hcc, hff⟩ := bcellx hb2)
  have hb3 : Below (w.heap.size + 1) (w.alloc (.cells #[.slice (some ⟨b, off, none⟩) n c] 33)) w2 := by simpa using hb2
  have HB3 := Lib.hid hb3
  clear hb2 hcc hff hb3
  go_loopw [7, 9, 37] (fun v7 _ v37 wr => ∃ (k nx : Nat), k ≤ na ∧ nx ≤ 1000000 ∧ v37 = .int .i64 (k : Int) ∧ v7 = .int .i64 (nx : Int) ∧ walkR (growA (growF L d) ta (at_ + 1)) = walkR (growA (growF L d) (ta.drop k) nx) ∧ Below (w.heap.size + 1) (w.alloc (.cells #[.slice (some ⟨b, off, none⟩) n c] 33)) wr) (fun _ _ v37 _ => na - (intOf v37).toNat)
  case atStart => exact ⟨0, at_ + 1, by omega, by omega, rfl, by go_num, rfl, HB3.out⟩
  case round =>
    obtain ⟨k, nx, hk, hnx, rfl, rfl, hR, hbr⟩ := hrel
    have hbw : Below w.heap.size w wr := HB1.out.trans (hbr.mono (by omega))
    have hcr : wr.cell? ⟨w.heap.size, 0, none⟩ = some (.slice (some ⟨b, off, none⟩) n c) := (hbr.cell (p := ⟨w.heap.size, 0, none⟩) (by show w.heap.size < _; omega)).trans HC0.out
    have HBR := Lib.hid hbr
    have HBW := Lib.hid hbw
    have HR := Lib.hid hR
    clear hbr hbw hR HB3
    by_cases hlt : k < na
    · obtain ⟨b2, off2, rfl, hb2, hc2⟩ := HCELL.out (by omega)
      have hb2w : b2 < w.heap.size := by omega
      have hcw := (HBW.out.cell (p := ⟨b2, off2 + k, none⟩) hb2w).trans (hc2 k hlt)
      have hkl : k < ta.length := by have := HNA.out; omega
      obtain ⟨a, ha⟩ : ∃ a, ta.getD k 0 = a := ⟨_, rfl⟩
      rw [ha] at hcw
      have hdrop : ta.drop k = a :: ta.drop (k + 1) := by
        rw [List.drop_eq_getElem_cons hkl, ← ha, List.getD_eq_getElem?_getD, List.getElem?_eq_getElem hkl]; rfl
      have hR2 := HR.out
      rw [hdrop, walkR_cons] at hR2
      have HR2 := Lib.hid hR2
      clear hR2 hdrop ha hc2 HR
      by_cases hanx : a = (nx : Int)
      · subst hanx
        have hT2 : TermsAt wr (· < B) (.slice (some ⟨b, off, none⟩) n c) L := HV.out.keep fun g hg => HBW.out.block g (by omega)
        have HT2 := Lib.hid hT2
        have HLr := Lib.hid (LibOk_of HL1.out HBR.out (by simp))
        have HSr := Lib.hid (SpcOk_of HS1.out HBR.out (by simp) (by have := HL1.out.size; show 2 < _; omega))
        have hszr : B ≤ wr.heap.size := by have := HBW.out.size; omega
        clear hT2
        rcases hg : growF L d nx with _ | ⟨x, af⟩
        · have hW : walkI (growF L d nx) = -1 := by rw [hg]; rfl
          have hR3 := HR2.out
          rw [if_pos rfl, hg] at hR3
          have HW := Lib.hid hW
          have HR3 := Lib.hid hR3
          clear hg hW hR3
          go_wp2_with (go_at_call 87; refine (HIH.out (.slice (some ⟨b, off, none⟩) n c) nx B _ HT2.out hszr hnx HLr.out HSr.out).mono ?_; rintro e w3 ⟨rfl, hb3⟩; rw [HW.out])
          go_ret
          exact ⟨by rw [HR3.out]; rfl, HBW.out.trans (hb3.mono (by have := HBW.out.size; omega))⟩
        · have hW : walkI (growF L d nx) = (af : Int) := by rw [hg]; rfl
          have haf : af ≤ 1000000 := by have := growF_after hg; have := HNL.out; omega
          have hR3 := HR2.out
          rw [if_pos rfl, hg] at hR3
          have HW := Lib.hid hW
          have HR3 := Lib.hid hR3
          have hneg : ¬ (af : Int) < 0 := by omega
          clear hg hW hR3
          go_wp2_with (go_at_call 87; refine (HIH.out (.slice (some ⟨b, off, none⟩) n c) nx B _ HT2.out hszr hnx HLr.out HSr.out).mono ?_; rintro e w3 ⟨rfl, hb3⟩; rw [HW.out])
          go_roundw
          case rel => exact ⟨k + 1, af, by omega, haf, by go_num, rfl, HR3.out, HBR.out.trans (hb3.mono (by have := HBR.out.size; simp at this; omega))⟩
          case measure => simp [intOf]; omega
      · have hR3 := HR2.out
        rw [if_neg hanx] at hR3
        have HR3 := Lib.hid hR3
        have hab : (a == (nx : Int)) = false := by simp [hanx]
        clear hR3
        go_wp2_with fail
        go_ret
        exact ⟨by rw [HR3.out]; rfl, HBW.out⟩
    · have hkn : k = na := by omega
      have hj0 : ¬ (k : Int) < (na : Int) := by omega
      have hR2 := HR.out
      rw [List.drop_eq_nil_of_le (by have := HNA.out; omega)] at hR2
      have HR2 := Lib.hid hR2
      clear hR2 hkn HR
      go_wp2_with fail
      go_ret
      exact ⟨by rw [HR2.out]; rfl, HBW.out⟩
/-- The reference's walk from a term on: the number of the term behind, or -1. -/
theorem r_walk (L : List Trm) (hL : L.length ≤ 1000000) (hok : ∀ t ∈ L, TrmOk t) : ∀ (d dp : Nat), d + dp = 7 → ∀ (v : Value) (at_ B : Nat) (w : World), TermsAt w (· < B) v L → B ≤ w.heap.size → at_ ≤ 1000000 → LibOk w → SpcOk w →
    Calls Tryz.prog 87 #[.agg #[v], .int .i64 (at_ : Int), .int .i64 (dp : Int)] w (IntBel (walkI (growF L d at_)) w) := by
  intro d
  induction d with
  | zero =>
    intro dp hd v at_ B w hv hB hat hl hsp
    obtain rfl : dp = 7 := by omega
    obtain ⟨A, n, c, rfl, hn, hnc, h4⟩ := hv
    rcases Nat.lt_or_ge at_ n with h | h
    · exact r_walk_deep A n c at_ w h (by omega)
    · exact r_walk_out A n c at_ 7 w h hat
  | succ d ih =>
    intro dp hd v at_ B w hv hB hat hl hsp
    have hv0 := hv
    obtain ⟨A, n, c, rfl, hn, hnc, h4⟩ := hv
    rcases Nat.lt_or_ge at_ n with h | h
    · obtain ⟨b, off, hA, hbB, hc⟩ := h4 (by omega)
      have hT := hc at_ h
      have hg := trmAt_get (L := L) (k := at_) (by omega)
      have hm : trmAt L at_ ∈ L := List.mem_of_getElem? hg
      obtain ⟨o1, o2, o3⟩ := hok _ hm
      rw [walkI_growF hg]
      generalize trmAt L at_ = t at *
      cases hb : rtermB t with
      | false => exact r_walk_term A n c b off at_ B dp t w hA (by omega) h (by omega) (by omega) hT o1 o2 hl hsp hb
      | true => exact r_walk_main L d dp (by omega) (fun v at_ B w h1 h2 h3 h4 h5 => by have := ih (dp + 1) (by omega) v at_ B w h1 h2 h3 h4 h5; rwa [show ((dp + 1 : Nat) : Int) = (dp : Int) + 1 by omega] at this) A n c b off at_ B t w hv0 hB hA (by omega) h (by omega) hn hT o1 o2 o3 hl hsp hb
    · have e : walkI (growF L (d + 1) at_) = -1 := by
        unfold growF
        rw [List.getElem?_eq_none (by omega)]; rfl
      rw [e]
      exact r_walk_out A n c at_ dp w h hat
end Go.Proofs.YtgbhaaongmlpkaaGreatDoor
namespace Go.Proofs.YtgbhaaongmlpkaaGreatDoor
open Go.RowKit Num

set_option maxRecDepth 100000 in
set_option maxHeartbeats 4000000 in
theorem r_Condition (v : Value) (L : List Trm) (B : Nat) (w : World) (hv : TermsAt w (· < B) v L) (hB : B ≤ w.heap.size) (hL : L.length ≤ 1000000) (hok : ∀ t ∈ L, TrmOk t) (hl : LibOk w) (hsp : SpcOk w) :
    Calls Tryz.prog 68 #[.agg #[v]] w (BoolBel (rootF L).isSome w) := by
  obtain ⟨A, n, c, rfl, hn, hnc, h4⟩ := id hv
  have e : (rootF L).isSome = (decide (1 ≤ n) && decide (n ≤ 24) && decide (walkI (growF L 6 0) = (n : Int))) := by rw [hn, walk_whole]
  have n1 : n ≤ 1000000 := by omega
  have hb1 : Below w.heap.size w (w.alloc (.cells #[.slice A n c] 33)) := (Below.refl _ _).alloc (Nat.le_refl _) _
  obtain ⟨w1, hw1⟩ : ∃ w1, w.alloc (.cells #[.slice A n c] 33) = w1 := ⟨_, rfl⟩
  have hs1 : w1.heap.size = w.heap.size + 1 := by rw [← hw1]; simp
  have hc1 : w1.cell? ⟨w.heap.size, 0, none⟩ = some (.slice A n c) := by rw [← hw1]; exact (Blk.new w 33 #[.slice A n c]).cell 0
  rw [hw1] at hb1
  have mk : ∀ W, Below w1.heap.size w1 W → W.cell? ⟨w.heap.size, 0, none⟩ = some (.slice A n c) ∧ Hid (Below w1.heap.size w1 W) := fun W hW =>
    ⟨(hW.cell (p := ⟨w.heap.size, 0, none⟩) (by show w.heap.size < _; omega)).trans hc1, Lib.hid hW⟩
  obtain ⟨z, hz⟩ : ∃ z, walkI (growF L 6 0) = z := ⟨_, rfl⟩
  have hwk : ∀ W, Below w1.heap.size w1 W → Calls Tryz.prog 87 #[.agg #[.slice A n c], .int .i64 0, .int .i64 1] W (IntBel z W) := fun W hW => by
    have h0 : Below w.heap.size w W := hb1.trans (hW.mono (by omega))
    rw [← hz]
    exact r_walk L hL hok 6 1 rfl (.slice A n c) 0 B W (hv.keep fun g hg => h0.block g (by omega)) (by have := h0.size; omega) (by omega) (hl.later h0) (spc_below hsp (by have := hl.size; show 2 < _; omega) h0)
  rw [hz] at e
  have E := Lib.hid e
  have HB1 := Lib.hid hb1
  have HC1 := Lib.hid hc1
  have HW1 := Lib.hid hw1
  have HS1 := Lib.hid hs1
  have MK := Lib.hid mk
  have HWK := Lib.hid hwk
  clear e hv hB hL hok hl hsp hn h4 hb1 hc1 hw1 hs1 mk hwk hz
  by_cases h1 : 1 ≤ n
  · by_cases h24 : n ≤ 24
    · have q1 : (1 : Int) ≤ (n : Int) := by omega
      have q2 : (n : Int) ≤ 24 := by omega
      go_enter Tryz.func68, Tryz.ntmps68
      go_wp2_with fail
      rw [HW1.out]
      go_region_held3 (fun W => W.cell? ⟨w.heap.size, 0, none⟩ = some (.slice A n c) ∧ Hid (Below w1.heap.size w1 W))
        (first
          | exact HP.out
          | exact MK.out _ (Below.refl _ _).drew)
        (first
          | (go_at_call 87
             (with_reducible refine (HWK.out _ (Below.refl _ _).drew).mono ?_)
             rintro e wk ⟨rfl, hbk⟩
             have HP := Lib.hid (MK.out wk ((Below.refl w1.heap.size w1).drew.trans (hbk.mono (Nat.le_refl _))))))
      all_goals
        go_split_ands
        go_wp2_with fail
        go_ret
        refine ⟨by rw [E.out]; simp [h1, h24]; exact Bool.eq_iff_iff.2 (by simp), HB1.out.trans (Below.mono (Hid.out ‹Hid (Below w1.heap.size w1 _)›) (by rw [HS1.out]; omega))⟩
    · have q1 : (1 : Int) ≤ (n : Int) := by omega
      have p1 : decide ((1 : Int) ≤ (n : Int)) = true := by simp; omega
      have p2 : decide ((n : Int) ≤ 24) = false := by simp; omega
      have p3 : decide (1 ≤ n) = true := by simp; omega
      have p4 : decide (n ≤ 24) = false := by simp; omega
      go_enter Tryz.func68, Tryz.ntmps68
      go_wp2_with fail
      go_quiet (fail)
      go_wp2_with fail
      go_ret
      exact ⟨by rw [E.out]; simp [h24], by rw [HW1.out]; exact HB1.out.trans (only_drewB _ _ _)⟩
  · have p1 : decide ((1 : Int) ≤ (n : Int)) = false := by simp; omega
    have p3 : decide (1 ≤ n) = false := by simp; omega
    go_enter Tryz.func68, Tryz.ntmps68
    go_wp2_with fail
    go_quiet (fail)
    go_wp2_with fail
    go_ret
    exact ⟨by rw [E.out]; simp [h1], by rw [HW1.out]; exact HB1.out.trans (only_drewB _ _ _)⟩
end Go.Proofs.YtgbhaaongmlpkaaGreatDoor
namespace Go.Proofs.YtgbhaaongmlpkaaGreatDoor
open Go.RowKit Num

theorem blk_second (w : World) (o1 : Obj) (T : TypeId) (ys : Array Value) : Blk ((w.alloc o1).alloc (.cells ys T)) (w.heap.size + 1) T ys := by
  have := Blk.new (w.alloc o1) T ys
  rwa [World.size_alloc] at this
set_option maxRecDepth 100000 in
set_option maxHeartbeats 4000000 in
theorem r_text_args (d : Nat) (L : List Trm) (b off n c : Nat) (w : World) (hb : b < w.heap.size) (hn : n ≤ 1000000) (hl : LibOk w)
    (ih : ∀ (k : Nat) (T : Tree) (m : Nat) (W : World), Below w.heap.size w W → growF L d k = some (T, m) → (txT d T).length ≤ 100000 → Calls Tryz.prog 88 #[.agg #[.slice (some ⟨b, off, none⟩) n c], .int .i64 (k : Int)] W (StrBel (txT d T) W))
    (k : Nat) (hkn : k < n) (t : Trm) (hT : TermAt w (· < w.heap.size) b (off + k * 6) t) (hk : t.kind = 1 ∨ t.kind = 2) (hn0 : t.num = 0) (hpos : 2 ≤ t.args.length) (xs : List Tree) (m : Nat) (hg : growA (growF L d) t.args (k + 1) = some (xs, m))
    (hlen : (txT (d + 1) (.node t xs)).length ≤ 100000) :
    Calls Tryz.prog 88 #[.agg #[.slice (some ⟨b, off, none⟩) n c], .int .i64 (k : Int)] w (StrBel (txT (d + 1) (.node t xs)) w) := by
  obtain ⟨i0, hi, hz0, hz1, hz2⟩ := info_parts infoStr
  have q2 : (0 : Int) ≤ (k : Int) := by omega
  have q3 : (k : Int) < (n : Int) := by omega
  rw [txT_node, if_pos hk] at hlen ⊢
  obtain ⟨LS, hLS⟩ : ∃ LS, xs.map (txT d) = LS := ⟨_, rfl⟩
  have hxl := growA_len hg
  have hLl : LS.length = t.args.length := by rw [← hLS, List.length_map, hxl]
  rw [hLS] at hlen ⊢
  obtain ⟨jl, hjl⟩ : ∃ jl, joinS [44, 32] LS = jl := ⟨_, rfl⟩
  have hjl1 : jl.length ≤ 100000 := by rw [← hjl]; simp only [List.length_append, List.length_cons, List.length_nil] at hlen; omega
  have hkid : ∀ j, j < t.args.length → ∃ (q : Nat) (T : Tree) (mm : Nat), t.args.getD j 0 = (q : Int) ∧ growF L d q = some (T, mm) ∧ LS[j]? = some (txT d T) ∧ (txT d T).length ≤ 100000 := by
    intro j hj
    obtain ⟨q, x, mm, e1, e2, e3⟩ := growA_at hg j (t.args.getD j 0) (by rw [List.getD_eq_getElem?_getD, List.getElem?_eq_getElem hj]; rfl)
    have hLk : LS[j]? = some (txT d x) := by rw [← hLS, List.getElem?_map, e3]; rfl
    refine ⟨q, x, mm, e1, e2, hLk, ?_⟩
    have := joinS_le [44, 32] LS _ (List.mem_of_getElem? hLk)
    rw [hjl] at this; omega
  rw [hjl]
  have hn1 : LS.length ≤ 100001 := by
    have := joinS_ge [44, 32] (by decide) LS
    rw [hjl] at this
    omega
  have s2 : (bsOf jl).size ≤ 100000 := by rw [bsOf_data]; exact hjl1
  obtain ⟨tk, tn, ty, tf, tt, ta⟩ := t
  simp only at hk hn0 hpos hLl hkid hn1
  subst hn0
  obtain ⟨c0, c1, c2, c3, c4, u5, c5, Aa, na, ca, rfl, hna, hca, hcell⟩ := hT
  simp only at hna hcell c0 c1 c2 c3 c4 c5
  obtain ⟨ab, ao, rfl, hab, hac⟩ := hcell (by omega)
  have hpos2 : 2 ≤ na := by omega
  have hn3 : na ≤ 100001 := by omega
  have hb2 : ∀ o, Below w.heap.size w ((w.alloc (.cells #[.slice (some ⟨b, off, none⟩) n c] 33)).alloc o) := fun o => ((Below.refl _ _).alloc (Nat.le_refl _) _).alloc (by simp) _
  have HB2 := Lib.hid hb2
  have HL := Lib.hid hl
  have HK0 := Lib.hid (fun j (h : j < na) => hkid j (by omega))
  have HAC := Lib.hid hac
  have HJ := Lib.hid hjl
  have HLL := Lib.hid (show LS.length = na by omega)
  have HIH := Lib.hid ih
  clear hkid hjl hLl hLS hlen hcell hna ih hac hg hxl hb2 hl hpos
  rcases hk with rfl | rfl
  all_goals
    go_enter Tryz.func88, Tryz.ntmps88
    go_wp2_with fail
    refine (i_Itoa 0 _ (HL.out.later (HB2.out _)).tab (by omega) (by omega)).mono ?_
    rintro e w4 ⟨rfl, hb4⟩
    obtain ⟨hcc, hff⟩ := bcellx hb4
    go_wp2_with fail
    have hs4 := hb4.size
    have k20 : w4.cell? ⟨w.heap.size, 0, none⟩ = some (.slice (some ⟨b, off, none⟩) n c) := (hb4.cell (p := ⟨w.heap.size, 0, none⟩) (by simp; omega)).trans (((Blk.new w 33 #[.slice (some ⟨b, off, none⟩) n c]).alloc _).cell 0)
    have k30 := (hb4.cell (p := ⟨w.heap.size + 1, 0, none⟩) (by simp)).trans ((blk_second w _ 46 _).cell 0)
    simp only [List.getElem?_toArray, List.getElem?_cons_zero] at k30
    have hbw : Below w.heap.size w w4 := (HB2.out _).trans (hb4.mono (by simp; omega))
    have hs4' : w.heap.size + 2 ≤ w4.heap.size := by simpa using hs4
    have HBW := Lib.hid hbw
    clear hcc hff hb4 hs4 hbw
    go_loopw [7, 9, 56] (fun v7 _ v56 wr => ∃ k : Nat, k ≤ na ∧ v56 = .int .i64 (k : Int) ∧ wr.ownsRow (w.heap.size + 2) 9 1 v7 k ((LS.take k).map fun l => .string (bsOf l)) ∧ Below (w.heap.size + 2) w4 wr) (fun _ _ v56 _ => na - (intOf v56).toNat)
    case atStart => exact ⟨0, by omega, rfl, World.ownsRow_nil _ _ _ _, Below.refl _ _⟩
    case round =>
      obtain ⟨j, hj, rfl, hown, hbl⟩ := hrel
      have hs3 := hbl.size
      have hbw : Below w.heap.size w wr := HBW.out.trans (hbl.mono (by omega))
      have r20 := (hbl.cell (p := ⟨w.heap.size, 0, none⟩) (by show w.heap.size < _; omega)).trans k20
      have r30 := (hbl.cell (p := ⟨w.heap.size + 1, 0, none⟩) (by show w.heap.size + 1 < _; omega)).trans k30
      by_cases hlt : j < na
      · obtain ⟨q, T, mm, hq, hgT, hLk, hTl⟩ := HK0.out j hlt
        have cp := (hbw.cell (p := ⟨ab, ao + j, none⟩) hab).trans (HAC.out j hlt)
        rw [hq] at cp
        have z1 : (0 : Int) ≤ (j : Int) := by omega
        have z2 : (j : Int) < (na : Int) := by omega
        have HBL := Lib.hid hbl
        have HBX := Lib.hid hbw
        have HLK := Lib.hid hLk
        have HGT := Lib.hid hgT
        clear hLk hbl hbw hq hgT
        go_wp2_with fail
        refine (HIH.out q T mm wr HBX.out HGT.out hTl).mono ?_
        rintro e w1 ⟨rfl, hb2⟩
        have hown1 := hown.kept (only_of_below hb2 none) (by rename_i v4 _ _; cases Value.ownBlock _ <;> simp)
        have HB3 := Lib.hid (HBL.out.trans (hb2.mono (Nat.le_trans hs4' hs3)))
        have hs5 := hb2.size
        clear hb2 hown
        generalize txT d T = tx at *
        go_wp2_with (at_builtin; refine wpList_append_own _ rfl _ _ 63 rfl (w.heap.size + 2) 9 i0 (.string ⟨#[]⟩) 1 16 Tryz.underlying63 hi hz0 hz1 hz2 rfl (by decide) _ _ _ rfl (hown1.alloc _) ⟨w1.heap.size, 0, none⟩ 1 1 [.string (bsOf tx)] rfl rfl (cell_one_new _ _ _) (by intro u hu; simp at hu; subst hu; rfl) (by unfold maxLen; omega) (by omega) (by simp; omega) ?_)
        intro v' w2 hown2 hgrow _
        have hlt2 := hown1.lt
        have hb3 : Below (w.heap.size + 2) w4 w2 := (HB3.out.alloc (by omega) _).grown hgrow (by simp; omega) (fun g hg => (hlt2 g hg).1)
        have hown3 : w2.ownsRow (w.heap.size + 2) 9 1 v' (j + 1) ((LS.take (j + 1)).map fun l => .string (bsOf l)) := by
          rw [List.take_add_one, HLK.out]
          simpa using hown2
        have HO := Lib.hid hown3
        have HB4 := Lib.hid hb3
        clear hown2 hgrow hlt2 hb3 hown3 hown1
        go_wp2_with fail
        go_roundw
        case measure => simp [intOf]; omega
        case rel => exact ⟨j + 1, by omega, by go_num, HO.out, HB4.out⟩
      · have hkn : j = na := by omega
        subst hkn
        have htk : LS.take j = LS := List.take_of_length_le (by have := HLL.out; omega)
        rw [htk] at hown
        obtain ⟨q, cap, hv, _, hq⟩ := hown.form (by omega)
        subst hv
        have hcap : j ≤ cap := by
          rcases hown.2 with ⟨h1, _⟩ | ⟨g3, cap3, cur, h1, _, _, h2, _⟩
          · cases h1
          · injection h1 with _ _ h3; omega
        have hcells : ∀ i x, LS[i]? = some x → wr.cell? ⟨q, 0 + i, none⟩ = some (.string (bsOf x)) := by
          intro i x hj
          have := hown.cells (g := q) rfl i (.string (bsOf x)) (by rw [List.getElem?_map, hj]; rfl)
          have ha : (⟨q, 0, none⟩ : Addr).add i = ⟨q, i, none⟩ := by unfold Addr.add; split <;> simp_all
          rw [ha] at this
          rw [Nat.zero_add]; exact this
        have HC2 := Lib.hid hcells
        have HBX := Lib.hid hbw
        have hs6 := hbw.size
        have hj0 : ¬ (j : Int) < (j : Int) := by omega
        clear hcells htk hown hbl hbw
        go_wp2_with (go_at_call 80; refine (i_Join q 0 j cap LS _ HLL.out.symm hcap hq HC2.out (by rw [HJ.out]; omega) (by have := HLL.out; omega)).mono ?_; rw [HJ.out]; rintro e w2 ⟨rfl, hb2⟩)
        go_ret
        refine ⟨?_, HBX.out.trans (hb2.mono hs6)⟩
        exact congrArg (fun x : ByteArray => Ending.returned (.string x)) (by show bsOf _ ++ bsOf _ ++ bsOf [41] = _; rw [bsOf_app, bsOf_app]; rfl)
end Go.Proofs.YtgbhaaongmlpkaaGreatDoor
