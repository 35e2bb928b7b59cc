/- What the loop of FriendsRecover keeps: right and wrong shares in a list of its own. -/
import Derived.Test.YtjfphobfikadlaaGreatDoorW45
import Derived.Test.YtjfphobfikadlaaGreatDoorW46
set_option linter.unusedVariables false
set_option linter.unusedSimpArgs false
namespace Go.Proofs.YtjfphobfikadlaaGreatDoor
open Go.RowKit Num

set_option maxHeartbeats 400000 in
theorem y_One (b : Nat) (w : World) (hd : Dc w b) :
    Calls Tryz.prog 25 #[.pointer (some ⟨b, 0, none⟩), .int .i64 2] w fun e w' => ∃ x : Bool, e = .returned (.bool x) ∧ Dc w' b ∧ w.grownBy w' (some b) := by
  have h := k_Next b 2 w hd (by decide) (by decide)
  have H := Lib.hid h
  clear h hd
  go_enter Tryz.func25, Tryz.ntmps25
  go_wp2_with fail
  refine H.out.mono ?_
  rintro e w1 ⟨r, hr, rfl, hd1, hg1⟩
  have HD := Lib.hid hd1
  have HG := Lib.hid hg1
  clear hd1 hg1
  rcases (show r = 0 ∨ r = 1 by omega) with rfl | rfl
  · go_wp2_with fail
    go_ret
    exact ⟨_, rfl, HD.out, HG.out⟩
  · go_wp2_with fail
    go_ret
    exact ⟨_, rfl, HD.out, HG.out⟩
/-- What is kept: the dice, the plan, the circle, the shares that were dealt. -/
structure K3 (w : World) (d B C N p need hold : Nat) (key : ByteArray) (Am : Option Addr) (nm cm : Nat) (Al : Option Addr) (cl : Nat) (L : List Sh) (W : World) : Prop where
  lsk : LsK w d B p need hold W
  blk : Blk W C 40 #[.int .i64 (p : Int), .int .i64 (need : Int), .int .i64 (hold : Int), .int .i64 0, .slice Am nm cm, .string (shaOf key)]
  ms : StrsAt W (fun z => d < z ∧ z < N) (.slice Am nm cm) (marksL L)
  sh : ShAt W (fun z => d < z ∧ z < N) (.slice Al hold cl) L
  nw : N ≤ W.heap.size
  dc : d < C
  cn : C < N
  bn : B < N
section
variable {w W W' : World} {d B C N p need hold : Nat} {key : ByteArray} {Am : Option Addr} {nm cm : Nat} {Al : Option Addr} {cl : Nat} {L : List Sh}
theorem K3.below (h : K3 w d B C N p need hold key Am nm cm Al cl L W) (hb : Below W.heap.size W W') : K3 w d B C N p need hold key Am nm cm Al cl L W' := by
  have hn := h.nw
  exact ⟨h.lsk.below hb, h.blk.below hb h.blk.lt, h.ms.keep fun z hz => hb.block z (by omega), h.sh.keep fun z hz => hb.block z (by omega), Nat.le_trans h.nw hb.size, h.dc, h.cn, h.bn⟩
theorem K3.grown (h : K3 w d B C N p need hold key Am nm cm Al cl L W) (hg : W.grownBy W' (some d)) (hd : Dc W' d) : K3 w d B C N p need hold key Am nm cm Al cl L W' := by
  have hn := h.nw
  have hc := h.dc
  exact ⟨h.lsk.grown hg hd, h.blk.grown hg (fun e => by injection e with e; omega), h.ms.keep fun z hz => hg.block z (by omega) (fun e => by injection e with e; omega), h.sh.keep fun z hz => hg.block z (by omega) (fun e => by injection e with e; omega), Nat.le_trans h.nw hg.size, h.dc, h.cn, h.bn⟩
/-- A row behind is written. -/
theorem K3.far (h : K3 w d B C N p need hold key Am nm cm Al cl L W) {row : Option Nat} (hg : W.grownBy W' row) (hr : ∀ g, row = some g → N ≤ g) : K3 w d B C N p need hold key Am nm cm Al cl L W' := by
  have hn := h.nw
  have hc := h.cn
  have hd := h.dc
  have hl := h.lsk.lt
  have hdl := h.lsk.dice.lt
  have hpl := h.lsk.plan.lt
  have hne : ∀ z, z < N → some z ≠ row := fun z hz e => by have := hr z e.symm; omega
  have hB := h.bn
  have hblk : ∀ z, z < N → W'.heap[z]? = W.heap[z]? := fun z hz => hg.block z (by omega) (hne z hz)
  refine ⟨⟨h.lsk.dice.grown hg (fun g e => by have := hr g e; omega), h.lsk.plan.grown hg (hne B hB), h.lsk.old.grown hg (Nat.le_of_lt hdl) (fun g e => by have := hr g e; omega), hl⟩, h.blk.grown hg (hne C hc), h.ms.keep fun z hz => hblk z hz.2, h.sh.keep fun z hz => hblk z hz.2, Nat.le_trans h.nw hg.size, h.dc, h.cn, h.bn⟩
end
/-- The list of right and wrong shares so far. -/
structure CI (W : World) (N d p : Nat) (L : List Sh) (T : List (Nat × Bool)) (v : Value) (us : Nat → Value) : Prop where
  row : W.ownsRow N 49 2 v T.length (shC (tagL p L T) us)
  good : ∀ q, q < T.length → tagB T q = true → IntsAt W (fun z => d < z ∧ z < N) (us q) (shAt (tagL p L T) q).2
  bad : ∀ q, q < T.length → tagB T q = false → OwnI W N (us q) (shAt (tagL p L T) q).2
section
variable {W W' : World} {d N p : Nat} {L : List Sh} {T : List (Nat × Bool)} {v : Value} {us : Nat → Value}
theorem CI.nil : CI W N d p L [] (.slice none 0 0) us := ⟨World.ownsRow_nil _ _ _ _, fun q hq => absurd hq (Nat.not_lt_zero q), fun q hq => absurd hq (Nat.not_lt_zero q)⟩
theorem CI.below (h : CI W N d p L T v us) (hN : N ≤ W.heap.size) (hb : Below W.heap.size W W') : CI W' N d p L T v us :=
  ⟨h.row.kept (only_of_below hb none) (by cases v.ownBlock <;> simp), fun q hq hg => (h.good q hq hg).keep fun z hz => hb.block z (by omega), fun q hq hg => (h.bad q hq hg).below hb⟩
theorem CI.dice (h : CI W N d p L T v us) (hN : N ≤ W.heap.size) (hd : d < N) (hg : W.grownBy W' (some d)) : CI W' N d p L T v us := by
  refine ⟨h.row.kept hg ?_, fun q hq hgd => (h.good q hq hgd).keep fun z hz => hg.block z (by omega) (fun e => by injection e with e; omega), fun q hq hgd => (h.bad q hq hgd).kept hg ?_⟩
  · cases hv : v.ownBlock with
    | none => simp
    | some g => have := (h.row.lt g hv).1; right; intro e; injection e with e; omega
  · cases hv : (us q).ownBlock with
    | none => simp
    | some g => have := (World.ownsRow.lt (h.bad q hq hgd) g hv).1; right; intro e; injection e with e; omega
theorem tagB_app_old (T : List (Nat × Bool)) (x : Nat × Bool) (q : Nat) (h : q < T.length) : tagB (T ++ [x]) q = tagB T q := by
  unfold tagB; rw [List.getD_eq_getElem?_getD, List.getElem?_append_left h, ← List.getD_eq_getElem?_getD]
theorem tagB_app_new (T : List (Nat × Bool)) (x : Nat × Bool) : tagB (T ++ [x]) T.length = x.2 := by
  unfold tagB; rw [List.getD_eq_getElem?_getD, List.getElem?_append_right (Nat.le_refl _), Nat.sub_self]; rfl
theorem tagL_app (p : Nat) (L : List Sh) (T : List (Nat × Bool)) (x : Nat × Bool) : tagL p L (T ++ [x]) = tagL p L T ++ [if x.2 then shAt L x.1 else wrg p (shAt L x.1)] := by
  unfold tagL; rw [List.map_append]; rfl
theorem shC_snoc (F : List Sh) (x : Sh) (us : Nat → Value) (u : Value) : shC (F ++ [x]) (fun q => if q = F.length then u else us q) = shC F us ++ [.int .i64 x.1, u] := by
  apply List.ext_getElem?
  intro j
  have hl : (shC F us).length = F.length * 2 := shC_len F us
  rcases Nat.lt_or_ge j (2 * F.length) with hj | hj
  · rw [List.getElem?_append_left (by omega), shC_get _ _ _ (by simp; omega), shC_get _ _ _ hj, shAt_app _ _ _ (by omega), if_neg (show ¬ j / 2 = F.length by omega)]
  · rw [List.getElem?_append_right (by omega)]
    rcases (show j = 2 * F.length ∨ j = 2 * F.length + 1 ∨ 2 * F.length + 2 ≤ j by omega) with e | e | e
    · rw [shC_get _ _ _ (by simp; omega), if_pos (by omega), show j / 2 = F.length by omega, shAt_snoc, show j - (shC F us).length = 0 by omega]; rfl
    · rw [shC_get _ _ _ (by simp; omega), if_neg (by omega), show j / 2 = F.length by omega, if_pos rfl, show j - (shC F us).length = 1 by omega]; rfl
    · rw [List.getElem?_eq_none (by rw [shC_len]; simp; omega), List.getElem?_eq_none (by simp; omega)]
/-- A right share more, behind. -/
theorem CI.right (h : CI W N d p L T v us) (hN : N ≤ W.heap.size) {v' u : Value} {i : Nat} (hg : W.grownBy W' v.ownBlock) (hr : W'.ownsRow N 49 2 v' (T.length + 1) (shC (tagL p L T) us ++ [.int .i64 (shAt L i).1, u])) (hu : IntsAt W (fun z => d < z ∧ z < N) u (shAt L i).2) :
    CI W' N d p L (T ++ [(i, true)]) v' (fun q => if q = T.length then u else us q) := by
  have hvN : ∀ g, v.ownBlock = some g → N ≤ g := fun g hg => (h.row.lt g hg).1
  have hblk : ∀ z, z < N → W'.heap[z]? = W.heap[z]? := fun z hz => hg.block z (by omega) (fun e => by have := hvN z e.symm; omega)
  have hl := tagL_len p L T
  refine ⟨?_, fun q hq hb => ?_, fun q hq hb => ?_⟩
  · have e := shC_snoc (tagL p L T) (shAt L i) us u
    rw [hl] at e
    rw [List.length_append, tagL_app]
    simp only [if_true]
    rw [e]
    exact hr
  · rw [tagL_app]
    rcases Nat.lt_or_ge q T.length with hlt | hge
    · rw [shAt_app _ _ _ (by rw [hl]; exact hlt), if_neg (by omega)]
      rw [tagB_app_old _ _ _ hlt] at hb
      exact (h.good q hlt hb).keep fun z hz => hblk z hz.2
    · have : q = T.length := by simp at hq; omega
      subst this
      have e := shAt_snoc (tagL p L T) (if (i, true).2 = true then shAt L (i, true).1 else wrg p (shAt L (i, true).1))
      rw [hl] at e
      rw [e, if_pos rfl]
      exact hu.keep fun z hz => hblk z hz.2
  · rw [tagL_app]
    rcases Nat.lt_or_ge q T.length with hlt | hge
    · rw [shAt_app _ _ _ (by rw [hl]; exact hlt), if_neg (by omega)]
      rw [tagB_app_old _ _ _ hlt] at hb
      exact (h.bad q hlt hb).kept hg (own_ne (h.bad q hlt hb) h.row (by decide))
    · have : q = T.length := by simp at hq; omega
      subst this
      rw [tagB_app_new] at hb
      cases hb
theorem tagB_cons_new (T : List (Nat × Bool)) (x : Nat × Bool) : tagB (x :: T) 0 = x.2 := rfl
theorem tagB_cons_old (T : List (Nat × Bool)) (x : Nat × Bool) (q : Nat) : tagB (x :: T) (q + 1) = tagB T q := rfl
theorem shC_cons (F : List Sh) (x : Sh) (us : Nat → Value) (u : Value) : shC (x :: F) (fun q => if q = 0 then u else us (q - 1)) = [.int .i64 x.1, u] ++ shC F us := by
  apply List.ext_getElem?
  intro j
  rcases (show j = 0 ∨ j = 1 ∨ 2 ≤ j by omega) with e | e | e
  · subst e
    rw [shC_get _ _ _ (by simp)]; rfl
  · subst e
    rw [shC_get _ _ _ (by simp; omega)]; rfl
  · rw [List.getElem?_append_right (by simpa using e)]
    simp only [List.length_cons, List.length_nil]
    rcases Nat.lt_or_ge j (2 * (F.length + 1)) with hj | hj
    · rw [shC_get _ _ _ (by simp; omega), shC_get _ _ _ (by omega), if_neg (show ¬ j / 2 = 0 by omega), show (j - 2) / 2 = j / 2 - 1 by omega, show (j - 2) % 2 = j % 2 by omega]
      have e1 : shAt (x :: F) (j / 2) = shAt F (j / 2 - 1) := by
        obtain ⟨m, hm⟩ : ∃ m, j / 2 = m + 1 := ⟨j / 2 - 1, by omega⟩
        rw [hm]; rfl
      rw [e1]
    · rw [List.getElem?_eq_none (by rw [shC_len]; simp; omega), List.getElem?_eq_none (by rw [shC_len]; omega)]
/-- A wrong share more, in front: in a list of its own. -/
theorem CI.left (h : CI W N d p L T v us) (hN : N ≤ W.heap.size) {vw v' u : Value} {i nw : Nat} {cw : List Value} (hw : W.ownsRow N 49 2 vw nw cw) (hg : W.grownBy W' vw.ownBlock) (hr : W'.ownsRow N 49 2 v' (T.length + 1) ([.int .i64 (shAt L i).1, u] ++ shC (tagL p L T) us)) (hu : OwnI W N u (wrg p (shAt L i)).2) :
    CI W' N d p L ((i, false) :: T) v' (fun q => if q = 0 then u else us (q - 1)) := by
  have hvN : ∀ g, vw.ownBlock = some g → N ≤ g := fun g hg => (hw.lt g hg).1
  have hblk : ∀ z, z < N → W'.heap[z]? = W.heap[z]? := fun z hz => hg.block z (by omega) (fun e => by have := hvN z e.symm; omega)
  refine ⟨?_, fun q hq hb => ?_, fun q hq hb => ?_⟩
  · have e := shC_cons (tagL p L T) (wrg p (shAt L i)) us u
    show W'.ownsRow N 49 2 v' (T.length + 1) (shC (wrg p (shAt L i) :: tagL p L T) _)
    rw [e]
    exact hr
  · rcases q with _ | q
    · cases hb
    · show IntsAt W' _ (if q + 1 = 0 then u else us (q + 1 - 1)) (shAt (tagL p L T) q).2
      rw [if_neg (by omega), Nat.add_sub_cancel]
      exact (h.good q (by simpa using hq) hb).keep fun z hz => hblk z hz.2
  · rcases q with _ | q
    · exact hu.kept hg (own_ne hu hw (by decide))
    · show OwnI W' N (if q + 1 = 0 then u else us (q + 1 - 1)) (shAt (tagL p L T) q).2
      rw [if_neg (by omega), Nat.add_sub_cancel]
      have hq' : q < T.length := by simpa using hq
      exact (h.bad q hq' hb).kept hg (own_ne (h.bad q hq' hb) hw (by decide))
/-- As the callee reads it. -/
theorem CI.at_ (h : CI W N d p L T v us) (hN : N ≤ W.heap.size) (h0 : 0 < T.length) : ∃ g cap, v = .slice (some ⟨g, 0, none⟩) T.length cap ∧ ShAt W (fun z => z < W.heap.size) v (tagL p L T) := by
  rcases id h.row.2 with ⟨h1, h2⟩ | ⟨g, cap, cur, rfl, hB, hh, hnc, -⟩
  · omega
  · have hg := (h.row.lt g rfl).2
    refine ⟨g, cap, rfl, _, T.length, cap, rfl, (tagL_len p L T).symm, hnc, fun _ => ⟨g, 0, rfl, hg, fun q hq => ⟨us q, ?_, ?_, ?_⟩⟩⟩
    · rw [Nat.zero_add, h.row.cellAt _ (by omega), shC_get _ _ _ (by rw [tagL_len]; omega), if_pos (by omega), show q * 2 / 2 = q by omega]
    · rw [Nat.zero_add, h.row.cellAt _ (by omega), shC_get _ _ _ (by rw [tagL_len]; omega), if_neg (by omega), show (q * 2 + 1) / 2 = q by omega]
    · cases hb : tagB T q with
      | true => exact (h.good q hq hb).mono fun z hz => by omega
      | false => exact (IntsAt.of_own (h.bad q hq hb)).mono fun z hz => hz.2
end
theorem ShAt.one {w : World} {S : Nat → Prop} {A : Option Addr} {n c i : Nat} {L : List Sh} (h : ShAt w S (.slice A n c) L) (hi : i < n) : ShAt w S (.slice (subA A c i 2) 1 (c - i)) [shAt L i] := by
  obtain ⟨A', n', c', hv, e1, e2, hc⟩ := h
  injection hv with v1 v2 v3
  subst v1 v2 v3
  obtain ⟨b, off, rfl, hS, hcell⟩ := hc (by omega)
  have hs : subA (some ⟨b, off, none⟩) c i 2 = some ⟨b, off + i * 2, none⟩ := by
    unfold subA; rw [if_neg (by omega)]
    show some ((⟨b, off, none⟩ : Addr).add (i * 2)) = _
    unfold Addr.add; split <;> simp_all
  rw [hs]
  refine ⟨_, _, _, rfl, rfl, by omega, fun _ => ⟨b, off + i * 2, rfl, hS, fun k hk => ?_⟩⟩
  have hk0 : k = 0 := by omega
  subst hk0
  obtain ⟨u, m0, m1, hu⟩ := hcell i hi
  exact ⟨u, by rw [Nat.zero_mul, Nat.add_zero]; exact m0, by rw [Nat.zero_mul, Nat.add_zero]; exact m1, hu⟩
/-- The values of a share, the first k of them one more. -/
def incK (p : Nat) (xs : List Int) (k : Nat) : List Int := (List.range xs.length).map fun j => if j < k then (xs.getD j 0 + 1) % (p : Int) else xs.getD j 0
theorem incK_len (p : Nat) (xs : List Int) (k : Nat) : (incK p xs k).length = xs.length := by simp [incK]
theorem incK_get (p : Nat) (xs : List Int) (k j : Nat) (h : j < xs.length) : (incK p xs k).getD j 0 = if j < k then (xs.getD j 0 + 1) % (p : Int) else xs.getD j 0 := by
  unfold incK; rw [List.getD_eq_getElem?_getD, List.getElem?_map, List.getElem?_range h]; rfl
theorem incK_zero (p : Nat) (xs : List Int) : incK p xs 0 = xs := by
  apply List.ext_getElem
  · rw [incK_len]
  · intro i h1 h2
    simp [incK, List.getD_eq_getElem?_getD, h2]
theorem incK_next (p : Nat) (xs : List Int) (k : Nat) (hk : k < xs.length) : (incK p xs k).set k ((xs.getD k 0 + 1) % (p : Int)) = incK p xs (k + 1) := by
  apply List.ext_getElem
  · rw [List.length_set, incK_len, incK_len]
  · intro i h1 h2
    rw [List.getElem_set]
    simp only [incK, List.getElem_map, List.getElem_range]
    by_cases e : k = i
    · subst e; rw [if_pos rfl, if_pos (by omega)]
    · rw [if_neg e]
      by_cases e2 : i < k
      · rw [if_pos e2, if_pos (by omega)]
      · rw [if_neg e2, if_neg (by omega)]
theorem incK_all (p : Nat) (xs : List Int) : incK p xs xs.length = xs.map fun v => (v + 1) % (p : Int) := by
  apply List.ext_getElem
  · simp [incK]
  · intro i h1 h2
    have hi : i < xs.length := by simpa using h2
    simp [incK, List.getD_eq_getElem?_getD, hi]
theorem TagI.right {T : List (Nat × Bool)} {i : Nat} (h : TagI T i) : TagI (T ++ [(i, true)]) (i + 1) := by
  refine ⟨?_, fun x hx => ?_⟩
  · rw [List.map_append, List.nodup_append]
    refine ⟨h.nd, by simp, fun a ha b hb e => ?_⟩
    rw [List.mem_map] at ha
    obtain ⟨x, hx, rfl⟩ := ha
    have := h.lt x hx
    simp at hb
    omega
  · rcases List.mem_append.1 hx with hx | hx
    · have := h.lt x hx; omega
    · simp at hx; subst hx; show i < i + 1; omega
theorem TagI.left {T : List (Nat × Bool)} {i : Nat} (h : TagI T i) : TagI ((i, false) :: T) (i + 1) := by
  refine ⟨?_, fun x hx => ?_⟩
  · rw [List.map_cons, List.nodup_cons]
    refine ⟨fun hm => ?_, h.nd⟩
    rw [List.mem_map] at hm
    obtain ⟨x, hx, e⟩ := hm
    have := h.lt x hx
    change x.1 = i at e
    omega
  · rcases List.mem_cons.1 hx with hx | hx
    · subst hx; show i < i + 1; omega
    · have := h.lt x hx; omega
theorem CI.form {W : World} {d N p : Nat} {L : List Sh} {T : List (Nat × Bool)} {v : Value} {us : Nat → Value} (h : CI W N d p L T v us) : ∃ A c, v = .slice A T.length c ∧ T.length ≤ c ∧ Reads W W.heap.size 2 A T.length (shC (tagL p L T) us) := by
  rcases id h.row.2 with ⟨h1, h2⟩ | ⟨g, cap, cur, rfl, hB, hh, hnc, -⟩
  · refine ⟨none, 0, by rw [h2]; exact h1, by omega, ⟨by rw [shC_len, tagL_len], fun h => by omega⟩⟩
  · have hg := (h.row.lt g rfl).2
    refine ⟨_, cap, rfl, hnc, ⟨by rw [shC_len, tagL_len], fun h0 => ⟨_, rfl, hg, fun j u hj => ?_⟩⟩⟩
    have hjl : j < T.length * 2 := by
      have := (List.getElem?_eq_some_iff.1 hj).1
      rw [shC_len, tagL_len] at this; exact this
    have hadd : (⟨g, 0, none⟩ : Addr).add j = ⟨g, j, none⟩ := by unfold Addr.add; split <;> simp_all
    rw [hadd, h.row.cellAt j hjl]; exact hj
theorem CI.one {W : World} {d N p : Nat} {L : List Sh} {T : List (Nat × Bool)} {v : Value} {us : Nat → Value} (h : CI W N d p L T v us) : ∀ u ∈ shC (tagL p L T) us, u.oneCell' = true := by
  intro u hu
  unfold shC at hu
  rw [List.mem_map] at hu
  obtain ⟨j, hj, rfl⟩ := hu
  rw [List.mem_range, tagL_len] at hj
  by_cases e : j % 2 = 0
  · rw [if_pos e]; rfl
  · rw [if_neg e]
    have hq : j / 2 < T.length := by omega
    cases hb : tagB T (j / 2) with
    | true => obtain ⟨A1, n1, c1, h1, _⟩ := h.good _ hq hb; rw [h1]; rfl
    | false => obtain ⟨A1, n1, c1, h1, _⟩ := IntsAt.of_own (h.bad _ hq hb); rw [h1]; rfl
end Go.Proofs.YtjfphobfikadlaaGreatDoor
