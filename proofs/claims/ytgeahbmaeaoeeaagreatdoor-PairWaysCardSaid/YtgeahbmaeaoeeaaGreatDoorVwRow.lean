/- Words for memory: a row of shares of the call's own, whose values lie elsewhere; law41.empty. -/
import Derived.Test.YtgeahbmaeaoeeaaGreatDoorVwMem
import Derived.Test.YtgeahbmaeaoeeaaGreatDoorRefDeal
set_option linter.unusedVariables false
set_option linter.unusedSimpArgs false
namespace Go.Proofs.YtgeahbmaeaoeeaaGreatDoor
open Go.RowKit Num

theorem vflat_len (f : Nat → List Value) (z : Nat) (hf : ∀ k, (f k).length = z) : ∀ n, ((List.range n).flatMap f).length = n * z := by
  intro n
  induction n with
  | zero => simp
  | succ n ih => rw [List.range_succ, List.flatMap_append, List.length_append, ih, List.flatMap_cons, List.flatMap_nil, List.append_nil, hf, Nat.succ_mul]
theorem vflat_get (f : Nat → List Value) (z : Nat) (hf : ∀ k, (f k).length = z) : ∀ n k j, k < n → j < z → ((List.range n).flatMap f)[k * z + j]? = (f k)[j]? := by
  intro n
  induction n with
  | zero => intro k j h; omega
  | succ n ih =>
    intro k j hk hj
    have hl := vflat_len f z hf n
    have hlt : k < n → k * z + j < n * z := fun h => by
      have : (k + 1) * z ≤ n * z := Nat.mul_le_mul_right z h
      rw [Nat.succ_mul] at this; omega
    rw [List.range_succ, List.flatMap_append, List.flatMap_cons, List.flatMap_nil, List.append_nil]
    by_cases e : k < n
    · rw [List.getElem?_append_left (by rw [hl]; exact hlt e)]; exact ih k j e hj
    · obtain rfl : k = n := by omega
      rw [List.getElem?_append_right (by rw [hl]; omega), hl, show k * z + j - k * z = j by omega]
theorem vflat_congr (f g : Nat → List Value) : ∀ n, (∀ k, k < n → f k = g k) → (List.range n).flatMap f = (List.range n).flatMap g := by
  intro n
  induction n with
  | zero => intro _; rfl
  | succ n ih => intro h; rw [List.range_succ, List.flatMap_append, List.flatMap_append, ih fun k hk => h k (by omega), List.flatMap_cons, List.flatMap_cons, h n (by omega)]; rfl
/-- The cells of shares. -/
def shR (L : List Sh) (us : Nat → Value) : List Value := (List.range L.length).flatMap fun k => [.int .i64 (shAt L k).1, us k]
theorem shR_snoc (L : List Sh) (x : Sh) (us : Nat → Value) (u : Value) : shR (L ++ [x]) (fun k => if k = L.length then u else us k) = shR L us ++ [.int .i64 x.1, u] := by
  unfold shR
  rw [List.length_append, List.length_singleton, List.range_succ, List.flatMap_append, List.flatMap_cons, List.flatMap_nil, List.append_nil, shAt_snoc_new]
  have e1 : (fun k => if k = L.length then u else us k) L.length = u := if_pos rfl
  rw [e1]
  congr 1
  refine vflat_congr _ _ _ fun k hk => ?_
  have e2 : (fun k => if k = L.length then u else us k) k = us k := if_neg (by omega)
  rw [shAt_snoc_old L x k hk, e2]
structure ShRow (w : World) (B : Nat) (v : Value) (L : List Sh) (us : Nat → Value) : Prop where
  row : w.ownsRow B 36 2 v L.length (shR L us)
  at_ : ∀ k, k < L.length → IntsAt w (fun b => b < w.heap.size ∧ v.ownBlock ≠ some b) (us k) (shAt L k).2
section
variable {w w' w2 : World} {B : Nat} {v v' u : Value} {L : List Sh} {us : Nat → Value} {x : Sh} {o : Obj}
theorem ShRow.nil (w : World) (B : Nat) (us : Nat → Value) : ShRow w B (.slice none 0 0) [] us := ⟨World.ownsRow_nil _ _ _ _, fun k hk => absurd hk (Nat.not_lt_zero k)⟩
theorem ShRow.below (h : ShRow w B v L us) (hb : Below w.heap.size w w') : ShRow w' B v L us :=
  ⟨h.row.kept (only_of_below hb none) (by cases v.ownBlock <;> simp), fun k hk => ((h.at_ k hk).keep fun b hb2 => hb.block b hb2.1).mono fun b hb2 => ⟨Nat.lt_of_lt_of_le hb2.1 hb.size, hb2.2⟩⟩
theorem ShRow.push (h : ShRow w B v L us) (hx : IntsAt w (fun b => b < w.heap.size ∧ v.ownBlock ≠ some b) u x.2) (hown : w2.ownsRow B 36 2 v' (L.length + 1) (shR L us ++ [.int .i64 x.1, u])) (hg : (w.alloc o).grownBy w2 v.ownBlock)
    (hat : v'.ownBlock = v.ownBlock ∨ v'.ownBlock = some (w.heap.size + 1)) : ShRow w2 B v' (L ++ [x]) (fun k => if k = L.length then u else us k) := by
  have hkb : ∀ b, b < w.heap.size ∧ v.ownBlock ≠ some b → w2.heap[b]? = w.heap[b]? := fun b hb => (hg.block b (by simp; omega) (fun e2 => hb.2 e2.symm)).trans (Below.heap_alloc w o b hb.1)
  have hsz := hg.size
  simp only [World.size_alloc] at hsz
  have hS : ∀ b, b < w.heap.size ∧ v.ownBlock ≠ some b → b < w2.heap.size ∧ v'.ownBlock ≠ some b := fun b hb => ⟨by omega, by
    rcases hat with e2 | e2
    · rw [e2]; exact hb.2
    · rw [e2]; intro e3; injection e3; omega⟩
  refine ⟨by rw [shR_snoc, List.length_append]; exact hown, fun k hk => ?_⟩
  rw [List.length_append, List.length_singleton] at hk
  by_cases e2 : k = L.length
  · subst e2
    rw [if_pos rfl, shAt_snoc_new]
    exact (hx.keep hkb).mono hS
  · rw [if_neg e2, shAt_snoc_old L x k (by omega)]
    exact ((h.at_ k (by omega)).keep hkb).mono hS
theorem ShRow.sh (h : ShRow w B v L us) : ShAt w (· < w.heap.size) v L := by
  rcases id h.row.2 with ⟨rfl, h0⟩ | ⟨g, cap, cur, rfl, hB, hh, hnc, hm, hs, ht⟩
  · exact ⟨none, 0, 0, rfl, by omega, Nat.le_refl _, fun h => absurd h (Nat.lt_irrefl 0)⟩
  · have hlt : g < w.heap.size := (Array.getElem?_eq_some_iff.1 hh).1
    refine ⟨_, L.length, cap, rfl, rfl, hnc, fun _ => ⟨g, 0, rfl, hlt, fun k hk => ⟨us k, ?_, ?_, (h.at_ k hk).mono fun b hb => hb.1⟩⟩⟩
    · have h1 := h.row.cells (g := g) rfl (k * 2 + 0) _ (vflat_get _ 2 (fun _ => rfl) L.length k 0 hk (by decide))
      have ha : (⟨g, 0, none⟩ : Addr).add (k * 2 + 0) = ⟨g, 0 + k * 2, none⟩ := by unfold Addr.add; split <;> simp_all
      rwa [ha] at h1
    · have h1 := h.row.cells (g := g) rfl (k * 2 + 1) _ (vflat_get _ 2 (fun _ => rfl) L.length k 1 hk (by decide))
      have ha : (⟨g, 0, none⟩ : Addr).add (k * 2 + 1) = ⟨g, 0 + k * 2 + 1, none⟩ := by unfold Addr.add; split <;> simp_all
      rwa [ha] at h1
end
theorem cell_two_new (w : World) (a b : Value) (t : TypeId) (j : Nat) (u : Value) (h : [a, b][j]? = some u) : (w.alloc (.cells #[a, b] t)).cell? ((⟨w.heap.size, 0, none⟩ : Addr).add j) = some u := by
  have hj : j = 0 ∨ j = 1 := by
    rcases Nat.lt_or_ge j 2 with h1 | h1
    · omega
    · rw [List.getElem?_eq_none (by simpa using h1)] at h; cases h
  rcases hj with rfl | rfl
  · have ha : (⟨w.heap.size, 0, none⟩ : Addr).add 0 = ⟨w.heap.size, 0, none⟩ := rfl
    rw [ha, World.cell?_alloc_new]; exact h
  · have ha : (⟨w.heap.size, 0, none⟩ : Addr).add 1 = ⟨w.heap.size, 1, none⟩ := rfl
    rw [ha, World.cell?_alloc_new]; exact h
def ShE (L : List Sh) (w : World) (e : Ending) (w' : World) : Prop := ∃ v, e = .returned v ∧ ShAt w' (· < w'.heap.size) v L ∧ Below w.heap.size w w'
def noVals (H : List Int) (n : Nat) : List Sh := (H.take n).map fun h => (h, [])
theorem noVals_succ (H : List Int) (n : Nat) (h : n < H.length) : noVals H (n + 1) = noVals H n ++ [(H.getD n 0, [])] := by
  unfold noVals
  rw [List.take_succ_eq_append_getElem h, List.map_append, List.getD_eq_getElem?_getD, List.getElem?_eq_getElem h]; rfl
theorem noVals_len (H : List Int) (n : Nat) (h : n ≤ H.length) : (noVals H n).length = n := by unfold noVals; rw [List.length_map, List.length_take]; omega
set_option maxRecDepth 100000 in
set_option maxHeartbeats 1000000 in
theorem a_empty (v : Value) (H : List Int) (S : Nat → Prop) (w : World) (hv : IntsAt w S v H) (hS : ∀ b, S b → b < w.heap.size) (hl : H.length ≤ 1000) :
    Calls Tryz.prog 11 #[v] w (ShE (noVals H H.length) w) := by
  obtain ⟨i0, hi, hz0, hz1, hz2⟩ := info_parts infoS
  obtain ⟨A, n, c, rfl, hn, hnc, hA⟩ := id hv
  have n1 : n ≤ 1000 := by omega
  have HA := Lib.hid hA
  have HN := Lib.hid hn
  have HS := Lib.hid hS
  clear hv hn hA hS hl
  go_enter Tryz.func11, Tryz.ntmps11
  go_wp2_with fail
  go_loopw [3, 8] (fun x t wr => ∃ i : Nat, i ≤ n ∧ t = .int .i64 (i : Int) ∧ ShRow wr w.heap.size x (noVals H i) (fun _ => .slice none 0 0) ∧ Below w.heap.size w wr) (fun _ t _ => n - (intOf t).toNat)
  case atStart => exact ⟨0, by omega, rfl, ShRow.nil _ _ _, Below.refl _ _⟩
  case round =>
    obtain ⟨i, hi', rfl, hrow, hbr⟩ := hrel
    rename World => wr
    have HBR := Lib.hid hbr
    have hsz := hbr.size
    have HROW := Lib.hid hrow
    clear hbr
    by_cases hlt : i < n
    · obtain ⟨b, off, rfl, hSb, hcl⟩ := HA.out (by omega)
      have ck := (HBR.out.cell (p := ⟨b, off + i, none⟩) (HS.out b hSb)).trans (hcl i hlt)
      obtain ⟨x, hx⟩ : ∃ x, H.getD i 0 = x := ⟨_, rfl⟩
      rw [hx] at ck
      have hsn := noVals_succ H i (by rw [← HN.out]; exact hlt)
      rw [hx] at hsn
      have hrl : (noVals H i).length = i := noVals_len H i (by rw [← HN.out]; exact hi')
      have HSN := Lib.hid hsn
      have HRL := Lib.hid hrl
      have hr := hrow.row
      rw [hrl] at hr
      have zi : (i : Int) < (n : Int) := by omega
      have zi0 : (0 : Int) ≤ (i : Int) := by omega
      have HX := Lib.hid hx
      clear hx hsn hcl hrl hrow
      generalize hM : noVals H i = M at *
      have HM := Lib.hid hM
      clear hM
      go_wp2_with (at_builtin; refine wpList_append_own_at _ rfl _ _ 30 rfl w.heap.size 36 i0 _ 2 32 Tryz.underlying30 hi hz0 hz1 hz2 rfl (by decide) _ _ _ rfl (hr.alloc _) ⟨wr.heap.size, 0, none⟩ 1 1 [.int .i64 x, .slice none 0 0] rfl rfl (fun j u hj => cell_two_new wr _ _ _ j u hj) (by simp [Value.oneCell']) (by unfold maxLen; omega) (by omega) (by simp; omega) ?_)
      intro v' w3 hown' hgrow hnz hloc
      have hg := grown_past hgrow
      have hul : ∀ g, u3.ownBlock = some g → w.heap.size ≤ g := fun g hg => (hr.lt g hg).1
      have hb2 := HBR.out.grown hg hsz hul
      have hp := HROW.out.push (x := (x, [])) (u := .slice none 0 0) ⟨none, 0, 0, rfl, rfl, Nat.le_refl _, fun h => absurd h (Nat.lt_irrefl 0)⟩ (by rw [HRL.out]; exact hown') hgrow (by simpa using hloc)
      have he : (fun k => if k = M.length then Value.slice none 0 0 else (fun _ => Value.slice none 0 0) k) = fun _ => Value.slice none 0 0 := funext fun k => by split <;> rfl
      rw [he] at hp
      have HP := Lib.hid hp
      have HB2 := Lib.hid hb2
      clear hown' hgrow hnz hloc hg hul hb2 hp he hr
      go_wp2_with fail
      go_roundw
      case measure => simp [intOf]; omega
      case rel => exact ⟨i + 1, by omega, by go_num, by rw [HSN.out]; exact HP.out, HB2.out⟩
    · obtain rfl : i = n := by omega
      have zi : ¬ (i : Int) < (i : Int) := by omega
      have hs := HROW.out.sh
      have HS2 := Lib.hid hs
      clear hs hrow
      go_wp2_with fail
      go_ret
      exact ⟨_, rfl, by rw [← HN.out]; exact HS2.out, HBR.out⟩
end Go.Proofs.YtgeahbmaeaoeeaaGreatDoor
