/- Contracts: nothing is wrong with a circle. Contracts: shares are copied, and looked through. Contracts: copies of shares; the shares that have their marks, where all have them. Contracts: the shares that have their marks, where all have them. Contracts: shares are looked through: those without their marks (none), those of a holder (none). -/
import Derived.Test.YtjfphobfikadlaaGreatDoorW16
import Derived.Test.YtjfphobfikadlaaGreatDoorW17
import Derived.Test.YtjfphobfikadlaaGreatDoorW07
import Derived.BigRegion
set_option linter.unusedVariables false
set_option linter.unusedSimpArgs false
namespace Go.Proofs.YtjfphobfikadlaaGreatDoor
open Go.RowKit Num

/-- A slice of strings, its cells in blocks of S. -/
def StrsAt (w : World) (S : Nat → Prop) (v : Value) (ss : List ByteArray) : Prop :=
  ∃ (A : Option Addr) (n c : Nat), v = .slice A n c ∧ n = ss.length ∧ n ≤ c ∧ (0 < n → ∃ b off, A = some ⟨b, off, none⟩ ∧ S b ∧ ∀ k, k < n → w.cell? ⟨b, off + k, none⟩ = some (.string (ss.getD k ⟨#[]⟩)))
theorem StrsAt.keep {w w' : World} {S : Nat → Prop} {v : Value} {ss : List ByteArray} (h : StrsAt w S v ss) (hk : ∀ b, S b → w'.heap[b]? = w.heap[b]?) : StrsAt w' S v ss := by
  obtain ⟨A, n, c, h1, h2, h3, h4⟩ := h
  refine ⟨A, n, c, h1, h2, h3, fun hn => ?_⟩
  obtain ⟨b, off, hA, hS, hc⟩ := h4 hn
  exact ⟨b, off, hA, hS, fun k hk' => (World.cell?_of_block (hk b hS)).trans (hc k hk')⟩
theorem StrsAt.mono {w : World} {S T : Nat → Prop} {v : Value} {ss : List ByteArray} (h : StrsAt w S v ss) (hk : ∀ b, S b → T b) : StrsAt w T v ss := by
  obtain ⟨A, n, c, h1, h2, h3, h4⟩ := h
  refine ⟨A, n, c, h1, h2, h3, fun hn => ?_⟩
  obtain ⟨b, off, hA, hS, hc⟩ := h4 hn
  exact ⟨b, off, hA, hk b hS, hc⟩
theorem StrsAt.of_own {w : World} {B : Nat} {v : Value} {n : Nat} {ss : List ByteArray} (h : w.ownsRow B 9 1 v n (ss.map Value.string)) : StrsAt w (fun b => B ≤ b ∧ b < w.heap.size) v ss := by
  have hl : n = ss.length := by have := h.1; simpa using this.symm
  rcases id h.2 with ⟨rfl, rfl⟩ | ⟨g, cap, cur, rfl, hB, hh, hnc, _⟩
  · exact ⟨none, 0, 0, rfl, hl, Nat.le_refl _, fun hn => absurd hn (Nat.lt_irrefl 0)⟩
  · refine ⟨_, n, cap, rfl, hl, hnc, fun hn => ⟨g, 0, rfl, ⟨hB, (Array.getElem?_eq_some_iff.1 hh).1⟩, fun k hk => ?_⟩⟩
    rw [Nat.zero_add, h.cellAt k (by omega), List.getElem?_map, List.getElem?_eq_getElem (by omega), List.getD_eq_getElem?_getD, List.getElem?_eq_getElem (by omega)]
    rfl
theorem f_bad (s : ByteArray) (w : World) (hs : s.size = 32) :
    Calls Tryz.prog 108 #[.string s] w fun e w' => e = .returned (.bool false) ∧ w = w' := by
  have hs' : (s.size : Int) = 32 := by omega
  clear hs
  go_enter Tryz.func108, Tryz.ntmps108
  go_wp2_with fail
  go_ret
  exact ⟨rfl, rfl⟩
set_option maxRecDepth 100000 in
set_option maxHeartbeats 1000000 in
theorem f_IndexS (v : Value) (ss : List ByteArray) (S : Nat → Prop) (w : World) (hv : StrsAt w S v ss) (hl : ss.length ≤ 1000) (hx : ∀ k, k < ss.length → (ss.getD k ⟨#[]⟩).size = 32) :
    Calls Tryz.prog 150 #[v, .func (.func 108) #[] #[]] w fun e w' => e = .returned (.int .i64 (-1)) ∧ w = w' := by
  obtain ⟨A, n, ca, rfl, hn, hnc, hcc⟩ := hv
  rw [← hn] at hl hx
  have HX := Lib.hid hx
  have HCC := Lib.hid hcc
  clear hn hcc hx
  go_enter Tryz.func150, Tryz.ntmps150
  go_wp2_with fail
  go_loopw [8] (fun t wr => ∃ i : Nat, i ≤ n ∧ t = .int .i64 i ∧ w = wr) (fun t _ => n - (intOf t).toNat)
  case atStart => exact ⟨0, by omega, rfl, rfl⟩
  case round =>
    obtain ⟨i, hin, rfl, rfl⟩ := hrel
    by_cases hlt : i < n
    · obtain ⟨b, off, rfl, _, hcell⟩ := HCC.out (by omega)
      have cx := hcell i hlt
      have bx := HX.out i hlt
      obtain ⟨x, hx⟩ : ∃ x, ss.getD i ⟨#[]⟩ = x := ⟨_, rfl⟩
      rw [hx] at cx bx
      have qi : (i : Int) < (n : Int) := by omega
      have qi0 : (0 : Int) ≤ (i : Int) := by omega
      have he := f_bad x w bx
      have HE := Lib.hid he
      clear hx hcell bx he
      go_wp2_with fail
      refine HE.out.mono ?_
      rintro e w' ⟨rfl, rfl⟩
      go_wp2_with fail
      go_roundw
      case measure => simp [intOf]; omega
      case rel => exact ⟨i + 1, by omega, by go_num, by first | rfl | trivial⟩
    · have hi' : i = n := by omega
      subst hi'
      go_wp2_with fail
      go_ret
      exact ⟨rfl, rfl⟩
set_option maxHeartbeats 400000 in
theorem f_ContainsS (v : Value) (ss : List ByteArray) (S : Nat → Prop) (w : World) (hv : StrsAt w S v ss) (hl : ss.length ≤ 1000) (hx : ∀ k, k < ss.length → (ss.getD k ⟨#[]⟩).size = 32) :
    Calls Tryz.prog 109 #[v, .func (.func 108) #[] #[]] w fun e w' => e = .returned (.bool false) ∧ w = w' := by
  have h := f_IndexS v ss S w hv hl hx
  have H := Lib.hid h
  clear h hv hx
  go_enter Tryz.func109, Tryz.ntmps109
  go_wp2_with fail
  refine H.out.mono ?_
  rintro e w' ⟨rfl, rfl⟩
  go_wp2_with fail
  go_ret
  exact ⟨rfl, rfl⟩
set_option maxRecDepth 100000 in
set_option maxHeartbeats 1000000 in
theorem f_Check (p need hold : Nat) (vm : Value) (ss : List ByteArray) (lock : ByteArray) (S : Nat → Prop) (w : World) (hw : BasesOk w) (hp : Prm p) (h2 : p ≤ 1073741824) (n1 : 1 ≤ need) (n2 : need ≤ hold) (n3 : hold ≤ 12) (n4 : hold < p)
    (hv : StrsAt w S vm ss) (hS : ∀ b, S b → b < w.heap.size) (hl : ss.length = hold) (hx : ∀ k, k < ss.length → (ss.getD k ⟨#[]⟩).size = 32) (hk : lock.size = 32) :
    Calls Tryz.prog 56 #[circV p need hold 0 vm lock] w fun e w' => e = .returned (.int .i64 0) ∧ Below w.heap.size w w' := by
  unfold circV
  obtain ⟨A, n, c, rfl, hn, hnc, hcc⟩ := id hv
  have hnh : n = hold := by omega
  subst hnh
  have kp : Blk (w.alloc (.cells #[.int .i64 (p : Int), .int .i64 (need : Int), .int .i64 (n : Int), .int .i64 0, .slice A n c, .string lock] 40)) w.heap.size 40 #[.int .i64 (p : Int), .int .i64 (need : Int), .int .i64 (n : Int), .int .i64 0, .slice A n c, .string lock] := Blk.new w _ _
  have hba : Below w.heap.size w (w.alloc (.cells #[.int .i64 (p : Int), .int .i64 (need : Int), .int .i64 (n : Int), .int .i64 0, .slice A n c, .string lock] 40)) := (Below.refl _ _).alloc (Nat.le_refl _) _
  have hval := s_Valid p need n _ (hw.alloc (.cells #[.int .i64 (p : Int), .int .i64 (need : Int), .int .i64 (n : Int), .int .i64 0, .slice A n c, .string lock] 40)) hp h2 n1 n2 (by omega) n4
  have hin := fun W => r_In 0 0 1099511627776 W
  rw [show (decide ((0 : Int) ≤ 0) && decide ((0 : Int) ≤ 1099511627776)) = true from rfl] at hin
  have hct := fun (W : World) (hW : Below w.heap.size w W) => f_ContainsS _ ss S W (hv.keep fun b hb => hW.block b (hS b hb)) (by omega) hx
  have hbd := fun W => f_bad lock W hk
  have KP := Lib.hid kp
  have HBA := Lib.hid hba
  have HVAL := Lib.hid hval
  have HIN := Lib.hid hin
  have HCT := Lib.hid hct
  have HBD := Lib.hid hbd
  have tn : decide ((12 : Int) < (n : Int)) = false := decide_eq_false (by omega)
  clear kp hba hval hin hct hbd hv hcc hn hl hx hk hw
  go_enter Tryz.func56, Tryz.ntmps56
  go_wp2_with fail
  refine HVAL.out.mono ?_
  rintro e w1 ⟨rfl, hb1⟩
  have kq := KP.out.below hb1 KP.out.lt
  have hq := HBA.out.trans (hb1.mono HBA.out.size)
  have s2 : w1.cell? ⟨w.heap.size, 2, none⟩ = some (.int .i64 (n : Int)) := kq.cell 2
  have s3 : w1.cell? ⟨w.heap.size, 3, none⟩ = some (.int .i64 0) := kq.cell 3
  have s4 : w1.cell? ⟨w.heap.size, 4, none⟩ = some (.slice A n c) := kq.cell 4
  have s5 : w1.cell? ⟨w.heap.size, 5, none⟩ = some (.string lock) := kq.cell 5
  have HB1 := Lib.hid hq
  clear kq hq hb1
  go_wp2_with fail
  refine (HIN.out _).mono ?_
  rintro e w' ⟨rfl, rfl⟩
  go_wp2_with fail
  refine (HCT.out _ HB1.out).mono ?_
  rintro e w' ⟨rfl, rfl⟩
  go_wp2_with fail
  refine (HBD.out _).mono ?_
  rintro e w' ⟨rfl, rfl⟩
  go_wp2_with fail
  go_ret
  exact ⟨rfl, HB1.out⟩
end Go.Proofs.YtjfphobfikadlaaGreatDoor
namespace Go.Proofs.YtjfphobfikadlaaGreatDoor
open Go.RowKit Num

/-- The cells of shares. -/
def shC (L : List Sh) (us : Nat → Value) : List Value := (List.range (2 * L.length)).map fun j => if j % 2 = 0 then .int .i64 (shAt L (j / 2)).1 else us (j / 2)
theorem shC_len (L : List Sh) (us : Nat → Value) : (shC L us).length = L.length * 2 := by simp [shC]; omega
theorem shC_get (L : List Sh) (us : Nat → Value) (j : Nat) (h : j < 2 * L.length) : (shC L us)[j]? = some (if j % 2 = 0 then .int .i64 (shAt L (j / 2)).1 else us (j / 2)) := by
  unfold shC; rw [List.getElem?_map, List.getElem?_range h]; rfl
theorem shC_h (L : List Sh) (us : Nat → Value) (k : Nat) (h : k < L.length) : (shC L us)[2 * k]? = some (.int .i64 (shAt L k).1) := by
  rw [shC_get L us _ (by omega), if_pos (by omega), show 2 * k / 2 = k by omega]
theorem shC_v (L : List Sh) (us : Nat → Value) (k : Nat) (h : k < L.length) : (shC L us)[2 * k + 1]? = some (us k) := by
  rw [shC_get L us _ (by omega), if_neg (by omega), show (2 * k + 1) / 2 = k by omega]
theorem shC_set (L : List Sh) (us : Nat → Value) (k : Nat) (v : Value) (h : k < L.length) : (shC L us).set (2 * k + 1) v = shC L (fun j => if j = k then v else us j) := by
  apply List.ext_getElem?
  intro i
  rw [List.getElem?_set]
  by_cases hi : i < 2 * L.length
  · rw [shC_get L _ i hi, shC_get L _ i hi, shC_len]
    by_cases e : 2 * k + 1 = i
    · rw [if_pos e, if_pos (by omega), if_neg (by omega), if_pos (by omega)]
    · rw [if_neg e]
      by_cases e2 : i % 2 = 0
      · rw [if_pos e2, if_pos e2]
      · rw [if_neg e2, if_neg e2, if_neg (by omega)]
  · rw [if_neg (by omega), List.getElem?_eq_none (by rw [shC_len]; omega), List.getElem?_eq_none (by rw [shC_len]; omega)]
theorem ShAt.reads {w : World} {S : Nat → Prop} {B : Nat} {A : Option Addr} {n c : Nat} {L : List Sh} (h : ShAt w S (.slice A n c) L) (hS : ∀ b, S b → b < B) :
    ∃ us : Nat → Value, Reads w B 2 A n (shC L us) ∧ (∀ k, k < n → IntsAt w S (us k) (shAt L k).2) ∧ n = L.length ∧ n ≤ c ∧ (0 < n → ∃ b off, A = some ⟨b, off, none⟩ ∧ S b) := by
  obtain ⟨A', n', c', hv, h2, h3, h4⟩ := h
  injection hv with e1 e2 e3
  subst e1 e2 e3
  rcases Nat.eq_zero_or_pos n with h0 | h0
  · subst h0
    refine ⟨fun _ => .slice none 0 0, ⟨by rw [shC_len, ← h2], fun h => absurd h (Nat.lt_irrefl 0)⟩, fun k hk => absurd hk (Nat.not_lt_zero k), h2, h3, fun h => absurd h (Nat.lt_irrefl 0)⟩
  · obtain ⟨b, off, rfl, hSb, hc⟩ := h4 h0
    have hex : ∀ k, ∃ u, k < n → w.cell? ⟨b, off + k * 2, none⟩ = some (.int .i64 (shAt L k).1) ∧ w.cell? ⟨b, off + k * 2 + 1, none⟩ = some u ∧ IntsAt w S u (shAt L k).2 := fun k => by
      by_cases hk : k < n
      · obtain ⟨u, h⟩ := hc k hk; exact ⟨u, fun _ => h⟩
      · exact ⟨.slice none 0 0, fun h => absurd h hk⟩
    obtain ⟨us, hus⟩ := Classical.skolem.1 hex
    refine ⟨us, ⟨by rw [shC_len, ← h2], fun _ => ⟨_, rfl, hS b hSb, fun j u hj => ?_⟩⟩, fun k hk => (hus k hk).2.2, h2, h3, fun _ => ⟨b, off, rfl, hSb⟩⟩
    have hjl : j < 2 * L.length := by
      rcases Nat.lt_or_ge j (2 * L.length) with h | h
      · exact h
      · rw [List.getElem?_eq_none (by rw [shC_len]; omega)] at hj; cases hj
    rw [shC_get L us j hjl] at hj
    injection hj with hj
    have hadd : (⟨b, off, none⟩ : Addr).add j = ⟨b, off + j, none⟩ := by unfold Addr.add; split <;> simp_all
    rw [hadd]
    by_cases e : j % 2 = 0
    · rw [if_pos e] at hj
      have := (hus (j / 2) (by omega)).1
      rw [show off + j / 2 * 2 = off + j by omega, hj] at this; exact this
    · rw [if_neg e] at hj
      have := (hus (j / 2) (by omega)).2.1
      rw [show off + j / 2 * 2 + 1 = off + j by omega, hj] at this; exact this
def CloneShPost (L : List Sh) (S : Nat → Prop) (w : World) (e : Ending) (w' : World) : Prop :=
  ∃ v us, e = .returned v ∧ w'.ownsRow w.heap.size 49 2 v L.length (shC L us) ∧ (∀ k, k < L.length → IntsAt w' S (us k) (shAt L k).2) ∧ Below w.heap.size w w'
set_option maxRecDepth 100000 in
set_option maxHeartbeats 1000000 in
theorem s_CloneSh (v : Value) (L : List Sh) (S : Nat → Prop) (w : World) (hv : ShAt w S v L) (hS : ∀ b, S b → b < w.heap.size) (hl : L.length ≤ 1000) (h0 : 0 < L.length) :
    Calls Tryz.prog 106 #[v] w (CloneShPost L S w) := by
  obtain ⟨i0, hi, hz0, hz1, hz2⟩ := info_parts infoS
  obtain ⟨A, n, c, rfl, -⟩ := id hv
  obtain ⟨us, hrd, hus, hn, hnc, hA⟩ := hv.reads hS
  obtain ⟨ad, rfl⟩ : ∃ ad, A = some ad := by obtain ⟨b, off, h, -⟩ := hA (by omega); exact ⟨_, h⟩
  have HRD := Lib.hid hrd
  have HUS := Lib.hid hus
  have HN := Lib.hid hn
  have hn1 : n ≤ 1000 := by omega
  have hn0 : 0 < n := by omega
  have hone : ∀ u ∈ shC L us, u.oneCell' = true := by
    intro u hu
    unfold shC at hu
    rw [List.mem_map] at hu
    obtain ⟨j, hj, rfl⟩ := hu
    rw [List.mem_range] at hj
    by_cases e : j % 2 = 0
    · rw [if_pos e]; rfl
    · rw [if_neg e]
      obtain ⟨A1, n1, c1, h1, _⟩ := hus (j / 2) (by omega)
      rw [h1]; rfl
  have HONE := Lib.hid hone
  clear hv hrd hus hn hone hA h0 hl
  have q41 := fun (W : World) => Lib.run_eql_slice_nil (P := Tryz.prog) W 41 49 (some ad) n c 0 0 Tryz.underlying41
  go_enter Tryz.func106, Tryz.ntmps106
  go_wp2_with (at_builtin; refine wpList_append_any _ rfl _ _ 41 rfl w.heap.size 49 i0 (.agg #[.int .i64 0, .slice none 0 0]) 2 32 Tryz.underlying41 hi hz0 hz1 hz2 rfl (by decide) (.slice (some ⟨w.heap.size, 0, none⟩) 0 0) 0 [] rfl (World.ownsRow_lit w #[] 0 (Nat.le_refl _) (by simp only [maxLen]; omega) rfl) w.heap.size (some ad) n c (shC L us) rfl (HRD.out.alloc (Nat.le_refl _) _) HONE.out (by simp only [maxLen]; omega) (by omega) (by simp) ?_)
  intro v' w3 hown' hgrow hloc
  have hg0 : w.grownBy w3 (some w.heap.size) := ⟨hgrow.os, hgrow.tape, hgrow.output, Nat.le_trans (by simp) hgrow.size, fun i hi hn => (hgrow.block i (by simp; omega) (by simpa [Value.ownBlock] using hn)).trans (Below.heap_alloc w _ i hi)⟩
  have hbl := (Below.refl w.heap.size w).grown hg0 (Nat.le_refl _) (fun g hg => by injection hg with hg; omega)
  have HO := Lib.hid hown'
  have HB := Lib.hid hbl
  clear hown' hgrow hloc hg0 hbl
  go_wp2_with fail
  go_ret
  refine ⟨_, us, rfl, ?_, fun k hk => (HUS.out k (by rw [HN.out]; exact hk)).keep fun b hb => HB.out.block b (hS b hb), HB.out⟩
  rw [← HN.out]
  simpa using HO.out
end Go.Proofs.YtjfphobfikadlaaGreatDoor
namespace Go.Proofs.YtjfphobfikadlaaGreatDoor
open Go.RowKit Num

def OwnShPost (L : List Sh) (w : World) (e : Ending) (w' : World) : Prop := ∃ v, e = .returned v ∧ OwnSh w' w.heap.size v L ∧ Below w.heap.size w w'
set_option maxRecDepth 100000 in
set_option maxHeartbeats 1000000 in
theorem s_Own (v : Value) (L : List Sh) (S : Nat → Prop) (w : World) (hv : ShAt w S v L) (hS : ∀ b, S b → b < w.heap.size) (hl : L.length ≤ 1000) (h0 : 0 < L.length) (hx : ∀ k, k < L.length → (shAt L k).2.length ≤ 100000) :
    Calls Tryz.prog 104 #[v] w (OwnShPost L w) := by
  have hcl := s_CloneSh v L S w hv hS hl h0
  obtain ⟨A, n, c, rfl, hn, -⟩ := id hv
  have hn1 : n ≤ 1000 := by omega
  have HN := Lib.hid hn
  have HCL := Lib.hid hcl
  have HX := Lib.hid hx
  clear hn hcl hv hl hx
  go_enter Tryz.func104, Tryz.ntmps104
  go_wp2_with fail
  refine HCL.out.mono ?_
  rintro e w1 ⟨v1, us, rfl, hown, hus, hb1⟩
  rcases id hown.2 with ⟨rfl, h0'⟩ | ⟨g, cap, cur, rfl, -⟩
  · omega
  have hln := HN.out
  rw [← hln] at hown ⊢
  have hw1s := hb1.size
  have HO := Lib.hid hown
  have HU := Lib.hid hus
  have HB := Lib.hid hb1
  clear hown hus hb1 hln h0
  go_wp2_with fail
  go_loopw [10] (fun t wr => ∃ (k : Nat) (us' : Nat → Value), k ≤ n ∧ t = .int .i64 (k : Int) ∧ wr.ownsRow w.heap.size 49 2 (.slice (some ⟨g, 0, none⟩) n cap) n (shC L us') ∧ (∀ i, i < k → wr.ownsRow w.heap.size 3 1 (us' i) (shAt L i).2.length ((shAt L i).2.map (Value.int .i64))) ∧
    (∀ i, k ≤ i → i < n → IntsAt wr S (us' i) (shAt L i).2) ∧ Below w.heap.size w wr) (fun t _ => n - (intOf t).toNat)
  case atStart => exact ⟨0, us, by omega, rfl, HO.out, fun i hi => absurd hi (Nat.not_lt_zero i), fun i _ hi => HU.out i (by rw [← HN.out]; exact hi), HB.out⟩
  case round =>
    clear HO HU HB
    obtain ⟨k, us', hk, rfl, hown, hdone, hleft, hbl⟩ := hrel
    have hzr := hbl.size
    by_cases hlt : k < n
    · have hkl : k < L.length := by have := HN.out; omega
      have qk : (k : Int) < (n : Int) := by omega
      have c0 : wr.cell? ⟨g, k * 2, none⟩ = some (.int .i64 (shAt L k).1) := by rw [hown.cellAt _ (by omega), Nat.mul_comm, shC_h L us' k hkl]
      have c1 : wr.cell? ⟨g, k * 2 + 1, none⟩ = some (us' k) := by rw [hown.cellAt _ (by omega), Nat.mul_comm, shC_v L us' k hkl]
      have hu := hleft k (Nat.le_refl k) hlt
      have hxl := HX.out k hkl
      have zg := (hown.lt g rfl).2
      have gB := (hown.lt g rfl).1
      obtain ⟨u, hue⟩ : ∃ u, us' k = u := ⟨_, rfl⟩
      rw [hue] at c1 hu
      obtain ⟨Au, nu, cu, rfl, f1, -⟩ := id hu
      obtain ⟨h, hh⟩ : ∃ h, (shAt L k).1 = h := ⟨_, rfl⟩
      rw [hh] at c0
      have hfz := hown.frozenAt (k * 2 + 1)
      have ha : Below wr.heap.size wr (wr.alloc (.cells #[.int .i64 h, .slice Au nu cu] 49)) := (Below.refl _ _).alloc (Nat.le_refl _) _
      have g1 : (wr.alloc (.cells #[.int .i64 h, .slice Au nu cu] 49)).cell? ⟨wr.heap.size, 1, none⟩ = some (.slice Au nu cu) := by rw [World.cell?_alloc_new]; rfl
      have hcl := s_Clone (.slice Au nu cu) (shAt L k).2 S (wr.alloc (.cells #[.int .i64 h, .slice Au nu cu] 49)) (hu.keep fun b hb => ha.block b (by have := hS b hb; omega)) (fun b hb => by have := hS b hb; simp; omega) (by omega)
      have HA := Lib.hid ha
      have HCLI := Lib.hid hcl
      have HOWN := Lib.hid hown
      have HDONE := Lib.hid hdone
      have HLEFT := Lib.hid hleft
      have HBL := Lib.hid hbl
      have HUE := Lib.hid hue
      clear ha hcl hown hdone hleft hbl hue hu f1 hh hxl
      go_wp2_with fail
      refine HCLI.out.mono ?_
      rintro e w2 ⟨v2, rfl, hv2, hb2⟩
      have hbr : Below wr.heap.size wr w2 := HA.out.trans (hb2.mono HA.out.size)
      have zg2 : g < w2.heap.size := by have := hbr.size; omega
      have d1 := (hbr.cell (p := ⟨g, k * 2 + 1, none⟩) zg).trans c1
      have df := (hbr.frozen (p := ⟨g, k * 2 + 1, none⟩) zg).trans hfz
      have hv1 := own_one hv2
      have hrow2 := HOWN.out.kept (only_of_below hbr none) (.inr (by simp [Value.ownBlock]))
      have hv2' : w2.ownsRow w.heap.size 3 1 v2 (shAt L k).2.length ((shAt L k).2.map (Value.int .i64)) := own_mono hv2 (by simp; omega)
      have hne := own_ne hv2' hrow2 (by decide)
      have HR2 := Lib.hid hrow2
      have HV2 := Lib.hid hv2'
      have HBR := Lib.hid hbr
      obtain ⟨A2, n2, c2, rfl, -⟩ := IntsAt.of_own hv2
      clear hv2 hb2 hbr hrow2 hv2' c0 c1 hfz
      go_wp2_with fail
      go_roundw
      case measure => simp [intOf]; omega
      case rel =>
        obtain ⟨hst, hgs⟩ := World.ownsRow.stored HR2.out (k * 2 + 1) (.slice A2 n2 c2)
        rw [Nat.mul_comm k 2, shC_set L us' k _ hkl, Nat.mul_comm 2 k] at hst
        refine ⟨k + 1, fun j => if j = k then .slice A2 n2 c2 else us' j, by omega, by go_num, hst, fun i hi => ?_, fun i hi1 hi2 => ?_, ?_⟩
        · by_cases e : i = k
          · subst e; simp only [if_true]
            exact HV2.out.kept hgs hne
          · simp only [if_neg e]
            have h1 := (HDONE.out i (by omega)).kept (only_of_below HBR.out none) (by cases (us' i).ownBlock <;> simp)
            exact h1.kept hgs (own_ne h1 HR2.out (by decide))
        · have e : i ≠ k := by omega
          simp only [if_neg e]
          have h1 : IntsAt w2 S (us' i) (shAt L i).2 := (HLEFT.out i (by omega) hi2).keep fun b hb => HBR.out.block b (by have := hS b hb; omega)
          exact h1.keep fun b hb => Below.heap_setCell _ _ _ _ (fun e => by have h1 := hS b hb; have h2 : b = g := e; omega)
        · exact (HBL.out.trans (HBR.out.mono (by omega))).setCell (p := ⟨g, k * 2 + 1, none⟩) gB _
    · have hkn : k = n := by omega
      subst hkn
      have HOWN := Lib.hid hown
      have HDONE := Lib.hid hdone
      have HBL := Lib.hid hbl
      clear hown hdone hleft hbl
      go_wp2_with fail
      go_ret
      refine ⟨_, rfl, ⟨shC L us', by rw [← HN.out]; exact HOWN.out, fun i hi => ⟨us' i, shC_h L us' i hi, shC_v L us' i hi, HDONE.out i (by rw [HN.out]; exact hi)⟩⟩, HBL.out⟩
end Go.Proofs.YtjfphobfikadlaaGreatDoor
namespace Go.Proofs.YtjfphobfikadlaaGreatDoor
open Go.RowKit Num

set_option maxRecDepth 100000 in
set_option maxHeartbeats 2000000 in
theorem c_fits (q n c b off mb : Nat) (u : Value) (xs : List Int) (S : Nat → Prop) (w : World) (hu : IntsAt w S u xs) (hS : ∀ b, S b → b < w.heap.size) (hl : xs.length ≤ 100000) (hr : I64s xs) (hq : q < n) (hnc : n ≤ c) (hn : n ≤ 1000)
    (hm : w.cell? ⟨mb, 0, none⟩ = some (.slice (some ⟨b, off, none⟩) n c)) (hc : w.cell? ⟨b, off + q, none⟩ = some (.string (markS ((q : Int) + 1) xs))) :
    Calls Tryz.prog 107 #[.agg #[.int .i64 ((q : Int) + 1), u], .pointer (some ⟨mb, 0, none⟩)] w fun e w' => e = .returned (.bool false) ∧ Below w.heap.size w w' := by
  obtain ⟨A, m, cu, rfl, -⟩ := id hu
  have hba := (Below.refl w.heap.size w).alloc (Nat.le_refl _) (.cells #[.int .i64 ((q : Int) + 1), .slice A m cu] 49)
  have hmk := fun (W : World) (hW : Below w.heap.size w W) => c_Mark ((q : Int) + 1) (.slice A m cu) xs S W (hu.keep fun b hb => hW.block b (hS b hb)) (fun b hb => Nat.lt_of_lt_of_le (hS b hb) hW.size) hl hr (by omega) (by omega)
  have p0 : (w.alloc (.cells #[.int .i64 ((q : Int) + 1), .slice A m cu] 49)).cell? ⟨w.heap.size, 0, none⟩ = some (.int .i64 ((q : Int) + 1)) := by rw [World.cell?_alloc_new]; rfl
  have p1 : (w.alloc (.cells #[.int .i64 ((q : Int) + 1), .slice A m cu] 49)).cell? ⟨w.heap.size, 1, none⟩ = some (.slice A m cu) := by rw [World.cell?_alloc_new]; rfl
  have p2 := (World.cell?_alloc_lt w (.cells #[.int .i64 ((q : Int) + 1), .slice A m cu] 49) ⟨mb, 0, none⟩ (World.block_lt_of_cell? _ _ hm)).trans hm
  have p3 := (World.cell?_alloc_lt w (.cells #[.int .i64 ((q : Int) + 1), .slice A m cu] 49) ⟨b, off + q, none⟩ (World.block_lt_of_cell? _ _ hc)).trans hc
  unfold MarkPost at hmk
  obtain ⟨mk, hmke⟩ : ∃ mk, markS ((q : Int) + 1) xs = mk := ⟨_, rfl⟩
  rw [hmke] at hmk p3
  have HMK := Lib.hid hmk
  have t1 : decide ((q : Int) + 1 < 1) = false := decide_eq_false (by omega)
  have t2 : decide ((n : Int) < (q : Int) + 1) = false := decide_eq_false (by omega)
  have t3 : IntKind.i64.wrap ((q : Int) + 1 - 1) = (q : Int) := by rw [show (q : Int) + 1 - 1 = (q : Int) by omega]; exact IntWalk.i64_in _ ⟨by omega, by omega⟩
  have t3' : IntKind.i64.wrap (q : Int) = (q : Int) := IntWalk.i64_in _ ⟨by omega, by omega⟩
  have t7 : (q : Int).toNat = q := by omega
  have t8 : decide ((n : Int) ≤ (q : Int)) = false := decide_eq_false (by omega)
  have t4 : (q : Int) < (n : Int) := by omega
  have t5 : (0 : Int) ≤ (q : Int) := by omega
  have t6 : decide ((q : Int) < 0) = false := decide_eq_false (by omega)
  clear hmk hu hc hm hmke hr
  go_enter Tryz.func107, Tryz.ntmps107
  go_wp2_with fail
  generalize w.alloc (.cells #[.int .i64 ((q : Int) + 1), .slice A m cu] 49) = w1 at *
  go_region_held3 (fun W => W.cell? ⟨w.heap.size, 0, none⟩ = some (.int .i64 ((q : Int) + 1)) ∧ W.cell? ⟨w.heap.size, 1, none⟩ = some (.slice A m cu) ∧ W.cell? ⟨mb, 0, none⟩ = some (.slice (some ⟨b, off, none⟩) n c) ∧ W.cell? ⟨b, off + q, none⟩ = some (.string mk) ∧ Below w.heap.size w W)
    (first
      | exact ⟨p0, p1, p2, p3, hba.drew⟩
      | (go_split_ands
         refine ⟨?_, ?_, ?_, ?_, ?_⟩
         · (rw [hbk.cell (World.block_lt_of_cell? _ _ ‹_›)]; assumption)
         · (rw [hbk.cell (World.block_lt_of_cell? _ _ ‹_›)]; assumption)
         · (rw [hbk.cell (World.block_lt_of_cell? _ _ ‹_›)]; assumption)
         · (rw [hbk.cell (World.block_lt_of_cell? _ _ ‹_›)]; assumption)
         · exact Below.trans ‹Below w.heap.size w _› (hbk.mono (‹Below w.heap.size w _›).size)))
    (first
      | (go_at_call 53; ((with_reducible refine (HMK.out _ (by go_split_ands; assumption)).mono ?_); rintro e wk ⟨rfl, hbk⟩)))
  all_goals
    go_split_ands
    have hbf : Below w.heap.size w wk := by assumption
    go_wp2_with fail
    go_ret
    exact ⟨rfl, hbf⟩
end Go.Proofs.YtjfphobfikadlaaGreatDoor
namespace Go.Proofs.YtjfphobfikadlaaGreatDoor
open Go.RowKit Num

set_option maxRecDepth 100000 in
set_option maxHeartbeats 1000000 in
theorem s_IndexM (pb : Nat) (v : Value) (L : List Sh) (S : Nat → Prop) (w : World) (hv : ShAt w S v L) (hS : ∀ b, S b → b < w.heap.size) (hl : L.length ≤ 1000)
    (hcl : ∀ k, k < L.length → ∀ W u, Below w.heap.size w W → IntsAt W S u (shAt L k).2 → Calls Tryz.prog 107 #[.agg #[.int .i64 (shAt L k).1, u], .pointer (some ⟨pb, 0, none⟩)] W fun e w' => e = .returned (.bool false) ∧ Below W.heap.size W w') :
    Calls Tryz.prog 149 #[v, .func (.func 107) #[] #[.pointer (some ⟨pb, 0, none⟩)]] w fun e w' => e = .returned (.int .i64 (-1)) ∧ Below w.heap.size w w' := by
  obtain ⟨A, n, ca, rfl, hn, hnc, hcc⟩ := hv
  rw [← hn] at hl hcl
  have HX := Lib.hid hcl
  have HCC := Lib.hid hcc
  clear hn hcc hcl
  go_enter Tryz.func149, Tryz.ntmps149
  go_wp2_with fail
  go_loopw [8] (fun t wr => ∃ i : Nat, i ≤ n ∧ t = .int .i64 i ∧ Below w.heap.size w wr) (fun t _ => n - (intOf t).toNat)
  case atStart => exact ⟨0, by omega, rfl, Below.refl _ _⟩
  case round =>
    obtain ⟨i, hin, rfl, hbl⟩ := hrel
    by_cases hlt : i < n
    · obtain ⟨b, off, rfl, hSb, hcell⟩ := HCC.out (by omega)
      obtain ⟨u, m0, m1, hu⟩ := hcell i hlt
      have hur : IntsAt wr S u (shAt L i).2 := hu.keep fun b hb => hbl.block b (hS b hb)
      have c0 := (hbl.cell (p := ⟨b, off + i * 2, none⟩) (hS b hSb)).trans m0
      have c1 := (hbl.cell (p := ⟨b, off + i * 2 + 1, none⟩) (hS b hSb)).trans m1
      have he := HX.out i hlt wr u hbl hur
      obtain ⟨Au, nu, cu, rfl, -⟩ := id hur
      obtain ⟨h, hh⟩ : ∃ h, (shAt L i).1 = h := ⟨_, rfl⟩
      rw [hh] at c0 he
      have qi : (i : Int) < (n : Int) := by omega
      have qi0 : (0 : Int) ≤ (i : Int) := by omega
      have HE := Lib.hid he
      have HBL := Lib.hid hbl
      clear hh hcell he m0 m1 hu hur hbl
      go_wp2_with fail
      refine HE.out.mono ?_
      rintro e w2 ⟨rfl, hb2⟩
      have HB2 := Lib.hid (HBL.out.trans (hb2.mono HBL.out.size))
      clear hb2
      go_wp2_with fail
      go_roundw
      case measure => simp [intOf]; omega
      case rel => exact ⟨i + 1, by omega, by go_num, HB2.out⟩
    · have hi' : i = n := by omega
      subst hi'
      have HBL := Lib.hid hbl
      clear hbl
      go_wp2_with fail
      go_ret
      exact ⟨rfl, HBL.out⟩
set_option maxRecDepth 100000 in
set_option maxHeartbeats 1000000 in
theorem s_IndexF (pb : Nat) (v : Value) (L : List Sh) (S : Nat → Prop) (w : World) (hv : ShAt w S v L) (hS : ∀ b, S b → b < w.heap.size) (hl : L.length ≤ 1000)
    (hcl : ∀ k, k < L.length → ∀ W u, Below w.heap.size w W → IntsAt W S u (shAt L k).2 → Calls Tryz.prog 124 #[.agg #[.int .i64 (shAt L k).1, u], .pointer (some ⟨pb, 0, none⟩)] W fun e w' => e = .returned (.bool false) ∧ Below W.heap.size W w') :
    Calls Tryz.prog 149 #[v, .func (.func 124) #[] #[.pointer (some ⟨pb, 0, none⟩)]] w fun e w' => e = .returned (.int .i64 (-1)) ∧ Below w.heap.size w w' := by
  obtain ⟨A, n, ca, rfl, hn, hnc, hcc⟩ := hv
  rw [← hn] at hl hcl
  have HX := Lib.hid hcl
  have HCC := Lib.hid hcc
  clear hn hcc hcl
  go_enter Tryz.func149, Tryz.ntmps149
  go_wp2_with fail
  go_loopw [8] (fun t wr => ∃ i : Nat, i ≤ n ∧ t = .int .i64 i ∧ Below w.heap.size w wr) (fun t _ => n - (intOf t).toNat)
  case atStart => exact ⟨0, by omega, rfl, Below.refl _ _⟩
  case round =>
    obtain ⟨i, hin, rfl, hbl⟩ := hrel
    by_cases hlt : i < n
    · obtain ⟨b, off, rfl, hSb, hcell⟩ := HCC.out (by omega)
      obtain ⟨u, m0, m1, hu⟩ := hcell i hlt
      have hur : IntsAt wr S u (shAt L i).2 := hu.keep fun b hb => hbl.block b (hS b hb)
      have c0 := (hbl.cell (p := ⟨b, off + i * 2, none⟩) (hS b hSb)).trans m0
      have c1 := (hbl.cell (p := ⟨b, off + i * 2 + 1, none⟩) (hS b hSb)).trans m1
      have he := HX.out i hlt wr u hbl hur
      obtain ⟨Au, nu, cu, rfl, -⟩ := id hur
      obtain ⟨h, hh⟩ : ∃ h, (shAt L i).1 = h := ⟨_, rfl⟩
      rw [hh] at c0 he
      have qi : (i : Int) < (n : Int) := by omega
      have qi0 : (0 : Int) ≤ (i : Int) := by omega
      have HE := Lib.hid he
      have HBL := Lib.hid hbl
      clear hh hcell he m0 m1 hu hur hbl
      go_wp2_with fail
      refine HE.out.mono ?_
      rintro e w2 ⟨rfl, hb2⟩
      have HB2 := Lib.hid (HBL.out.trans (hb2.mono HBL.out.size))
      clear hb2
      go_wp2_with fail
      go_roundw
      case measure => simp [intOf]; omega
      case rel => exact ⟨i + 1, by omega, by go_num, HB2.out⟩
    · have hi' : i = n := by omega
      subst hi'
      have HBL := Lib.hid hbl
      clear hbl
      go_wp2_with fail
      go_ret
      exact ⟨rfl, HBL.out⟩
set_option maxHeartbeats 400000 in
theorem s_DeleteM (pb : Nat) (v : Value) (L : List Sh) (S : Nat → Prop) (w : World) (hv : ShAt w S v L) (hS : ∀ b, S b → b < w.heap.size) (hl : L.length ≤ 1000)
    (hcl : ∀ k, k < L.length → ∀ W u, Below w.heap.size w W → IntsAt W S u (shAt L k).2 → Calls Tryz.prog 107 #[.agg #[.int .i64 (shAt L k).1, u], .pointer (some ⟨pb, 0, none⟩)] W fun e w' => e = .returned (.bool false) ∧ Below W.heap.size W w') :
    Calls Tryz.prog 105 #[v, .func (.func 107) #[] #[.pointer (some ⟨pb, 0, none⟩)]] w fun e w' => e = .returned v ∧ Below w.heap.size w w' := by
  have h := s_IndexM pb v L S w hv hS hl hcl
  have H := Lib.hid h
  obtain ⟨A, n, c, rfl, -⟩ := id hv
  clear h hv hcl
  go_enter Tryz.func105, Tryz.ntmps105
  go_wp2_with fail
  refine H.out.mono ?_
  rintro e w1 ⟨rfl, hb1⟩
  go_wp2_with fail
  go_ret
  exact ⟨rfl, hb1⟩
set_option maxHeartbeats 400000 in
theorem s_ContainsF (pb : Nat) (v : Value) (L : List Sh) (S : Nat → Prop) (w : World) (hv : ShAt w S v L) (hS : ∀ b, S b → b < w.heap.size) (hl : L.length ≤ 1000)
    (hcl : ∀ k, k < L.length → ∀ W u, Below w.heap.size w W → IntsAt W S u (shAt L k).2 → Calls Tryz.prog 124 #[.agg #[.int .i64 (shAt L k).1, u], .pointer (some ⟨pb, 0, none⟩)] W fun e w' => e = .returned (.bool false) ∧ Below W.heap.size W w') :
    Calls Tryz.prog 123 #[v, .func (.func 124) #[] #[.pointer (some ⟨pb, 0, none⟩)]] w fun e w' => e = .returned (.bool false) ∧ Below w.heap.size w w' := by
  have h := s_IndexF pb v L S w hv hS hl hcl
  have H := Lib.hid h
  obtain ⟨A, n, c, rfl, -⟩ := id hv
  clear h hv hcl
  go_enter Tryz.func123, Tryz.ntmps123
  go_wp2_with fail
  refine H.out.mono ?_
  rintro e w1 ⟨rfl, hb1⟩
  go_wp2_with fail
  go_ret
  exact ⟨rfl, hb1⟩
/-- The closure of fitting: another holder. -/
theorem f_other (pb : Nat) (h h' : Int) (u : Value) (xs : List Int) (S : Nat → Prop) (w : World) (hu : IntsAt w S u xs) (hc : w.cell? ⟨pb, 0, none⟩ = some (.int .i64 h')) (hne : h ≠ h') :
    Calls Tryz.prog 124 #[.agg #[.int .i64 h, u], .pointer (some ⟨pb, 0, none⟩)] w fun e w' => e = .returned (.bool false) ∧ Below w.heap.size w w' := by
  obtain ⟨A, m, cu, rfl, -⟩ := id hu
  have hba := (Below.refl w.heap.size w).alloc (Nat.le_refl _) (.cells #[.int .i64 h, .slice A m cu] 49)
  have p2 := (World.cell?_alloc_lt w (.cells #[.int .i64 h, .slice A m cu] 49) ⟨pb, 0, none⟩ (World.block_lt_of_cell? _ _ hc)).trans hc
  have t1 : (h == h') = false := by simpa using hne
  clear hu hc hne
  go_enter Tryz.func124, Tryz.ntmps124
  go_wp2_with fail
  go_ret
  exact ⟨rfl, hba⟩
/-- Shares that have their marks. -/
structure Fit (ss : List ByteArray) (L : List Sh) : Prop where
  at_ : ∀ k, k < L.length → ∃ q : Nat, (shAt L k).1 = (q : Int) + 1 ∧ q < ss.length ∧ ss.getD q ⟨#[]⟩ = markS (shAt L k).1 (shAt L k).2
  len : ∀ k, k < L.length → (shAt L k).2.length ≤ 100000
  nums : ∀ k, k < L.length → I64s (shAt L k).2
set_option maxRecDepth 100000 in
set_option maxHeartbeats 1000000 in
theorem c_MarkedA (v vm : Value) (L : List Sh) (ss : List ByteArray) (S T : Nat → Prop) (w : World) (hv : ShAt w S v L) (hS : ∀ b, S b → b < w.heap.size) (hl : L.length ≤ 1000) (h0 : 0 < L.length)
    (hm : StrsAt w T vm ss) (hT : ∀ b, T b → b < w.heap.size) (hml : ss.length ≤ 1000) (hf : Fit ss L) :
    Calls Tryz.prog 54 #[v, vm] w (OwnShPost L w) := by
  obtain ⟨A, n, c, rfl, -⟩ := id hv
  obtain ⟨Am, nm, cm, rfl, hnm, hnmc, hmc⟩ := id hm
  have hba := (Below.refl w.heap.size w).alloc (Nat.le_refl _) (.cells #[.slice Am nm cm] 38)
  have p0 : (w.alloc (.cells #[.slice Am nm cm] 38)).cell? ⟨w.heap.size, 0, none⟩ = some (.slice Am nm cm) := by rw [World.cell?_alloc_new]; rfl
  have hz : (w.alloc (.cells #[.slice Am nm cm] 38)).heap.size = w.heap.size + 1 := by simp
  have hcl := s_CloneSh (.slice A n c) L S (w.alloc (.cells #[.slice Am nm cm] 38)) (hv.keep fun b hb => hba.block b (hS b hb)) (fun b hb => by have := hS b hb; omega) hl h0
  have HCL := Lib.hid hcl
  have HBA := Lib.hid hba
  have HF := Lib.hid hf
  have HMC := Lib.hid hmc
  have HNM := Lib.hid hnm
  clear hcl hba hf hmc hnm hv hm
  go_enter Tryz.func54, Tryz.ntmps54
  go_wp2_with fail
  refine HCL.out.mono ?_
  rintro e w1 ⟨v1, us, rfl, hown, hus, hb1⟩
  have hz1 := hb1.size
  have hw1 : Below w.heap.size w w1 := HBA.out.trans (hb1.mono (by omega))
  have hsh1 : ShAt w1 (fun b => b < w1.heap.size) v1 L := by
    rcases id hown.2 with ⟨rfl, h0'⟩ | ⟨g, cap, cur, rfl, hB, hh, hnc, -⟩
    · omega
    · refine ⟨_, L.length, cap, rfl, rfl, hnc, fun _ => ⟨g, 0, rfl, (Array.getElem?_eq_some_iff.1 hh).1, fun k hk => ⟨us k, ?_, ?_, (hus k hk).mono fun b hb => by have := hS b hb; omega⟩⟩⟩
      · rw [Nat.zero_add, hown.cellAt _ (by omega), Nat.mul_comm, shC_h L us k hk]
      · rw [Nat.zero_add, hown.cellAt _ (by omega), Nat.mul_comm, shC_v L us k hk]
  have p1 := (hb1.cell (p := ⟨w.heap.size, 0, none⟩) (by show w.heap.size < _; omega)).trans p0
  have hdl := s_DeleteM w.heap.size v1 L _ w1 hsh1 (fun b hb => hb) hl (fun k hk W u hW hu => by
    obtain ⟨q, e1, e2, e3⟩ := HF.out.at_ k hk
    have hqn : q < nm := by rw [HNM.out]; exact e2
    obtain ⟨b, off, rfl, hTb, hcell⟩ := HMC.out (by omega)
    have c1 := hcell q hqn
    rw [e3, e1] at c1
    rw [e1]
    have hww := hw1.trans (hW.mono (by omega))
    exact c_fits q nm cm b off w.heap.size u _ _ W hu (fun b hb => Nat.lt_of_lt_of_le hb hW.size) (HF.out.len k hk) (HF.out.nums k hk) hqn hnmc (by have := HNM.out; omega)
      ((hW.cell (p := ⟨w.heap.size, 0, none⟩) (by show w.heap.size < _; omega)).trans p1) ((hww.cell (p := ⟨b, off + q, none⟩) (hT b hTb)).trans c1))
  have HDL := Lib.hid hdl
  have HW1 := Lib.hid hw1
  have HSH := Lib.hid hsh1
  obtain ⟨A1, n1, c1, rfl, -⟩ := id hsh1
  clear hdl hw1 hsh1 hown hus hb1 p1
  go_wp2_with fail
  refine HDL.out.mono ?_
  rintro e w2 ⟨rfl, hb2⟩
  have hz2 := hb2.size
  have ho := s_Own _ L _ w2 (HSH.out.keep fun b hb => hb2.block b hb) (fun b hb => Nat.lt_of_lt_of_le hb hz2) hl h0 (fun k hk => HF.out.len k hk)
  have HO := Lib.hid ho
  have HW2 := Lib.hid (HW1.out.trans (hb2.mono (by omega)))
  clear ho hb2
  go_wp2_with fail
  refine HO.out.mono ?_
  rintro e w3 ⟨v3, rfl, hv3, hb3⟩
  go_wp2_with fail
  go_ret
  refine ⟨_, rfl, ?_, HW2.out.trans (hb3.mono HW2.out.size)⟩
  obtain ⟨cells, a1, a2⟩ := hv3
  exact ⟨cells, own_mono a1 HW2.out.size, fun k hk => by obtain ⟨u, b1, b2, b3⟩ := a2 k hk; exact ⟨u, b1, b2, own_mono b3 HW2.out.size⟩⟩
end Go.Proofs.YtjfphobfikadlaaGreatDoor
