/- Contracts and plain facts for the law FriendsRecover: right and wrong shares in some order. Words: all but two blocks is as it was; who has lied (as XHanBea has them, for a seat without its laws). -/
import Derived.Test.YtjfphobfikadlaaGreatDoorW22
import Derived.Test.YtjfphobfikadlaaGreatDoorW25
import Derived.Test.YtjfphobfikadlaaGreatDoorW43
import Derived.Test.YtjfphobfikadlaaGreatDoorW44
import Derived.Test.YtjfphobfikadlaaGreatDoorW11
set_option linter.unusedVariables false
set_option linter.unusedSimpArgs false
namespace Go.Proofs.YtjfphobfikadlaaGreatDoor
open Go.RowKit Num

/-- Shares as they are brought: right ones and wrong ones. -/
def tagL (p : Nat) (L : List Sh) (T : List (Nat × Bool)) : List Sh := T.map fun x => if x.2 then shAt L x.1 else wrg p (shAt L x.1)
def tagB (T : List (Nat × Bool)) (q : Nat) : Bool := (T.getD q (0, false)).2
def rig (L : List Sh) (T : List (Nat × Bool)) : List Sh := (T.filter fun x => x.2).map fun x => shAt L x.1
structure TagI (T : List (Nat × Bool)) (k : Nat) : Prop where
  nd : (T.map Prod.fst).Nodup
  lt : ∀ x ∈ T, x.1 < k
theorem tagL_len (p : Nat) (L : List Sh) (T : List (Nat × Bool)) : (tagL p L T).length = T.length := by simp [tagL]
theorem tagL_at (p : Nat) (L : List Sh) (T : List (Nat × Bool)) (q : Nat) (h : q < T.length) : shAt (tagL p L T) q = if T[q].2 then shAt L T[q].1 else wrg p (shAt L T[q].1) := by
  unfold tagL shAt
  rw [List.getD_eq_getElem?_getD, List.getElem?_map, List.getElem?_eq_getElem h]; rfl
theorem keep_tag (p : Nat) (L : List Sh) (T : List (Nat × Bool)) : ∀ j, j ≤ T.length → keepL (tagB T) (tagL p L T) j = rig L (T.take j)
  | 0, _ => rfl
  | j + 1, hj => by
    have h : j < T.length := by omega
    rw [keepL_succ, keep_tag p L T j (by omega), List.take_succ_eq_append_getElem h]
    unfold rig
    rw [List.filter_append, List.map_append]
    have e : tagB T j = T[j].2 := by unfold tagB; rw [List.getD_eq_getElem?_getD, List.getElem?_eq_getElem h]; rfl
    rw [e, tagL_at p L T j h]
    cases hb : T[j].2 <;> simp [hb]
theorem rig_some {L : List Sh} {T : List (Nat × Bool)} (hT : TagI T L.length) : Some_ L (rig L T) := by
  have hl : (rig L T).length = (T.filter fun x => x.2).length := by simp [rig]
  have hsub : ((T.filter fun x => x.2).map Prod.fst).Nodup := hT.nd.sublist (List.Sublist.map _ List.filter_sublist)
  refine ⟨fun q => ((T.filter fun x => x.2).getD q (0, false)).1, fun q hq => ?_, fun i j hi hj hne e => ?_⟩
  · rw [hl] at hq
    have hm : (T.filter fun x => x.2)[q] ∈ T := (List.mem_filter.1 (List.getElem_mem hq)).1
    have e1 : (T.filter fun x => x.2).getD q (0, false) = (T.filter fun x => x.2)[q] := by rw [List.getD_eq_getElem?_getD, List.getElem?_eq_getElem hq]; rfl
    refine ⟨by show ((T.filter fun x => x.2).getD q (0, false)).1 < L.length; rw [e1]; exact hT.lt _ hm, ?_⟩
    show shAt (rig L T) q = shAt L ((T.filter fun x => x.2).getD q (0, false)).1
    rw [e1]
    unfold rig
    conv => lhs; unfold shAt
    rw [List.getD_eq_getElem?_getD, List.getElem?_map, List.getElem?_eq_getElem hq]; rfl
  · rw [hl] at hi hj
    have e1 : (T.filter fun x => x.2).getD i (0, false) = (T.filter fun x => x.2)[i] := by rw [List.getD_eq_getElem?_getD, List.getElem?_eq_getElem hi]; rfl
    have e2 : (T.filter fun x => x.2).getD j (0, false) = (T.filter fun x => x.2)[j] := by rw [List.getD_eq_getElem?_getD, List.getElem?_eq_getElem hj]; rfl
    change ((T.filter fun x => x.2).getD i (0, false)).1 = ((T.filter fun x => x.2).getD j (0, false)).1 at e
    rw [e1, e2] at e
    have hp := List.pairwise_iff_getElem.1 hsub
    rcases Nat.lt_or_gt_of_ne hne with h | h
    · have := hp i j (by simpa using hi) (by simpa using hj) h
      simp only [List.getElem_map] at this
      exact this e
    · have := hp j i (by simpa using hj) (by simpa using hi) h
      simp only [List.getElem_map] at this
      exact this e.symm
theorem PlayP.wide_ {p : Nat} (h : PlayP p) : p < 256 ∨ 16777216 ≤ p := by
  rcases h with rfl | rfl | rfl | rfl | rfl | rfl <;> decide
theorem packP_in_ (p : Nat) (l : List UInt8) (hp : p < 256 ∨ 16777216 ≤ p) (h2 : 2 ≤ p) : InF p (packP p l) := by
  unfold packP
  by_cases h : p < 256
  · rw [if_pos h]
    intro i hi
    rw [bitsL_len] at hi
    unfold bitsL
    rw [List.getD_eq_getElem?_getD, List.getElem?_map, List.getElem?_range hi]
    show (0 : Int) ≤ (((l.getD (i / 8) 0).toNat / 2 ^ (7 - i % 8) % 2 : Nat) : Int) ∧ (((l.getD (i / 8) 0).toNat / 2 ^ (7 - i % 8) % 2 : Nat) : Int) < p
    omega
  · rw [if_neg h]; exact pack3_in _ _ (by omega)
theorem LG_len (p need : Nat) (key : ByteArray) (s0 hold : Nat) : (LG p need key s0 hold).length = hold := dealt_lenM _ _ _ _ _
section
variable {p need hold s0 : Nat} {key : ByteArray}
theorem gm_Make (hpp : PlayP p) (n1 : 1 ≤ need) (n2 : need ≤ hold) (n3 : hold ≤ 5) (hk : key.size = 16) (W : World) (hW : BasesOk W) (vr : Value) (T : Nat → Prop) (hv : IntsAt W T vr (fillL p s0 (cntP p * (need - 1)))) (hT : ∀ b, T b → b < W.heap.size) :
    Calls Tryz.prog 21 #[.agg #[.int .i64 (p : Int), .int .i64 (need : Int), .int .i64 (hold : Int)], .string key, vr] W fun e w' => ∃ Am nm cm vl, e = .returned (.tuple #[.agg #[.int .i64 (p : Int), .int .i64 (need : Int), .int .i64 (hold : Int), .int .i64 0, .slice Am nm cm, .string (shaOf key)], vl, .int .i64 0]) ∧ StrsAt w' (fun b => W.heap.size ≤ b ∧ b < w'.heap.size) (.slice Am nm cm) (marksL (LG p need key s0 hold)) ∧ ShAt w' (fun b => W.heap.size ≤ b ∧ b < w'.heap.size) vl (LG p need key s0 hold) ∧ Below W.heap.size W w' := by
  obtain ⟨k, rfl⟩ : ∃ k, need = k + 1 := ⟨need - 1, by omega⟩
  obtain ⟨hp, h11, h5⟩ := hpp.prm
  have hl : key.data.toList.length = 16 := hk
  have hpl := packP_len p key.data.toList hpp.wide_ hl
  have hcl := cntP_le p
  refine (f_Make p k hold key (packP p key.data.toList) (fillL p s0 (cntP p * k)) vr W hW hp (by omega) n2 (by omega) (by omega) hk (fun W' hW' => p_PackP p key W' hW' hp hpp.wide_ (by omega) hk) (hv.mono hT) (packP_in_ _ _ hpp.wide_ (by omega)) (fillL_in _ _ _ (by omega)) (by omega) (by rw [hpl, fillL_len])).mono ?_
  rintro e w' ⟨vm, vl, he, hvm, hvl, hb⟩
  have hs := StrsAt.of_own hvm
  obtain ⟨Am, nm, cm, rfl, -⟩ := id hs
  exact ⟨Am, nm, cm, vl, he, hs, hvl.at_, hb⟩
theorem gr_Recover (T : List (Nat × Bool)) (hpp : PlayP p) (hkey : IsSalt key) (hk16 : key.size = 16) (n1 : 1 ≤ need) (n2 : need ≤ hold) (n3 : hold ≤ 5) (n4 : need ≤ 3) (hs : s0 < p) (hs2 : s0 < 1000) (hT : TagI T hold) (hTl : T.length = hold) (vm v : Value) (S U : Nat → Prop) (W : World) (hW : BasesOk W)
    (hv : ShAt W S v (tagL p (LG p need key s0 hold) T)) (hS : ∀ b, S b → b < W.heap.size) (hm : StrsAt W U vm (marksL (LG p need key s0 hold))) (hU : ∀ b, U b → b < W.heap.size) :
    Calls Tryz.prog 27 #[.agg #[.int .i64 (p : Int), .int .i64 (need : Int), .int .i64 (hold : Int), .int .i64 0, vm, .string (shaOf key)], v] W (RecPost need (rig (LG p need key s0 hold) T) key W) := by
  obtain ⟨k, rfl⟩ : ∃ k, need = k + 1 := ⟨need - 1, by omega⟩
  obtain ⟨hp, h11, h5⟩ := hpp.prm
  have hl : key.data.toList.length = 16 := hk16
  have hpl := packP_len p key.data.toList hpp.wide_ hl
  have hcl := cntP_le p
  have hLl := LG_len p (k + 1) key s0 hold
  have hkt := keep_tag p (LG p (k + 1) key s0 hold) T T.length (Nat.le_refl _)
  rw [List.take_of_length_le (Nat.le_refl _)] at hkt
  have hso := rig_some (L := LG p (k + 1) key s0 hold) (T := T) (by rw [hLl]; exact hT)
  have hgd := ((FromDealM.deal (p := p) (k := k) (hold := hold) (sec := packP p key.data.toList) (rnd := fillL p s0 (cntP p * k)) (by omega)).some hso).good
  have hg0 := (FromDealM.deal (p := p) (k := k) (hold := hold) (sec := packP p key.data.toList) (rnd := fillL p s0 (cntP p * k)) (by omega)).good
  have hcomb := fun hn => comb_some (p := p) (k := k) (hold := hold) (sec := packP p key.data.toList) (rnd := fillL p s0 (cntP p * k)) hp (by omega) (packP_in_ _ _ hpp.wide_ (by omega)) hso hn
  rw [hpl] at hgd hcomb hg0
  have hml : (marksL (LG p (k + 1) key s0 hold)).length = hold := by unfold marksL; rw [List.length_map, hLl]
  have hmg : ∀ j, j < hold → (marksL (LG p (k + 1) key s0 hold)).getD j ⟨#[]⟩ = markS (shAt (LG p (k + 1) key s0 hold) j).1 (shAt (LG p (k + 1) key s0 hold) j).2 := fun j hj => by
    have hlt : j < (LG p (k + 1) key s0 hold).length := by rw [hLl]; exact hj
    unfold marksL shAt
    rw [List.getD_eq_getElem?_getD, List.getElem?_map, List.getD_eq_getElem?_getD (l := LG p (k + 1) key s0 hold), List.getElem?_eq_getElem hlt]; rfl
  have hup : ∀ (W : World) (u : Value) (U : Nat → Prop), BasesOk W → IntsAt W U u (packP p key.data.toList) → (∀ b, U b → b < W.heap.size) → Calls Tryz.prog 73 #[.int .i64 (p : Int), u, .int .i64 16] W fun e w' => e = .returned (.tuple #[.string key, .int .i64 0]) ∧ Below W.heap.size W w' := fun W u U hb hu hU => by
    have ekey : (⟨key.data.toList.toArray⟩ : ByteArray) = key := by apply ByteArray.ext; simp
    unfold packP at hu
    by_cases hc : p < 256
    · rw [if_pos hc] at hu
      have h := p_Unpack0 p u key.data.toList U W hb hp hc hu hU hk16
      rwa [ekey] at h
    · rw [if_neg hc] at hu
      have h := p_Unpack3 p u key.data.toList U W hb hp (by rcases hpp.wide_ with h | h <;> omega) (by omega) hu hU hk16
      rwa [ekey] at h
  have hin : ∀ q, q < T.length → ∃ x, x < hold ∧ shAt (tagL p (LG p (k + 1) key s0 hold) T) q = (if tagB T q then shAt (LG p (k + 1) key s0 hold) x else wrg p (shAt (LG p (k + 1) key s0 hold) x)) := fun q hq => by
    refine ⟨T[q].1, hT.lt _ (List.getElem_mem hq), ?_⟩
    rw [tagL_at _ _ _ _ hq]
    have e : tagB T q = T[q].2 := by unfold tagB; rw [List.getD_eq_getElem?_getD, List.getElem?_eq_getElem hq]; rfl
    rw [e]
  have hval : ∀ x, x < hold → ((shAt (LG p (k + 1) key s0 hold) x).2.length ≤ 128 ∧ I64s (shAt (LG p (k + 1) key s0 hold) x).2) := fun x hx => by
    have h1 := hg0.len x (by rw [dealt_lenM]; exact hx)
    have h2 := hg0.inF x (by rw [dealt_lenM]; exact hx)
    refine ⟨by show (shAt (dealL p k (packP p key.data.toList) (fillL p s0 (cntP p * k)) hold) x).2.length ≤ _; rw [h1]; exact hcl, fun i hi => ?_⟩
    have := h2 i hi
    change 0 ≤ (shAt (dealL p k (packP p key.data.toList) (fillL p s0 (cntP p * k)) hold) x).2.getD i 0 ∧ _ at this
    show _ ≤ (shAt (dealL p k (packP p key.data.toList) (fillL p s0 (cntP p * k)) hold) x).2.getD i 0 ∧ (shAt (dealL p k (packP p key.data.toList) (fillL p s0 (cntP p * k)) hold) x).2.getD i 0 < _
    omega
  have hwi : ∀ x, x < hold → ((wrg p (shAt (LG p (k + 1) key s0 hold) x)).2.length ≤ 128 ∧ I64s (wrg p (shAt (LG p (k + 1) key s0 hold) x)).2) := fun x hx => by
    obtain ⟨h1, h2⟩ := hval x hx
    refine ⟨by unfold wrg; simpa using h1, fun i hi => ?_⟩
    have hi' : i < (shAt (LG p (k + 1) key s0 hold) x).2.length := by unfold wrg at hi; simpa using hi
    have e : (wrg p (shAt (LG p (k + 1) key s0 hold) x)).2.getD i 0 = ((shAt (LG p (k + 1) key s0 hold) x).2.getD i 0 + 1) % (p : Int) := by
      unfold wrg
      rw [List.getD_eq_getElem?_getD, List.getElem?_map, List.getD_eq_getElem?_getD, List.getElem?_eq_getElem hi']; rfl
    rw [e]
    have h3 := Int.emod_nonneg ((shAt (LG p (k + 1) key s0 hold) x).2.getD i 0 + 1) (show (p : Int) ≠ 0 by omega)
    have h4 := Int.emod_lt_of_pos ((shAt (LG p (k + 1) key s0 hold) x).2.getD i 0 + 1) (show (0 : Int) < p by omega)
    omega
  have h := f_RecoverG 0 (by decide) (by decide) (tagB T) (cntP p) (packP p key.data.toList) p (k + 1) hold vm v (tagL p (LG p (k + 1) key s0 hold) T) (marksL (LG p (k + 1) key s0 hold)) key S U W hW hp (by omega) (by omega) n2 (by omega) (by omega) (by omega) hv hS (by rw [tagL_len]; omega) (by rw [tagL_len]; omega) hm hU hml (marks_32 _)
    ⟨fun q hq => by
      rw [tagL_len] at hq
      obtain ⟨x, hx, e⟩ := hin q hq
      refine ⟨x, ?_, by rw [hml]; exact hx, fun hb => ?_, fun hb => ?_⟩
      · rw [e]; split
        · rw [LG_at _ _ _ _ _ _ hx]; rfl
        · show (shAt (LG p (k + 1) key s0 hold) x).1 = _
          rw [LG_at _ _ _ _ _ _ hx]; rfl
      · rw [e, hb, if_pos rfl, hmg x hx]
      · rw [e, hb, if_neg (by decide), hmg x hx]
        exact recv_ne p (k + 1) key hpp hkey n4 s0 hs hs2 hold x hx n3,
     fun q hq => by
      rw [tagL_len] at hq
      obtain ⟨x, hx, e⟩ := hin q hq
      rw [e]; split
      · have := (hval x hx).1; omega
      · have := (hwi x hx).1; omega,
     fun q hq => by
      rw [tagL_len] at hq
      obtain ⟨x, hx, e⟩ := hin q hq
      rw [e]; split
      · exact (hval x hx).2
      · exact (hwi x hx).2⟩
    (by rw [tagL_len, hkt]; exact hgd) hk16 (fun W u U a b c => hup W u U a b c) (fun hn => by rw [tagL_len, hkt] at hn ⊢; exact hcomb hn)
  rw [tagL_len, hkt] at h
  exact h
end
end Go.Proofs.YtjfphobfikadlaaGreatDoor
namespace Go.Proofs.YtjfphobfikadlaaGreatDoor
open Go.RowKit Num

/-- All but two blocks is as it was. -/
structure Far2 (d g : Nat) (w w' : World) : Prop where
  size : w.heap.size ≤ w'.heap.size
  os : w'.os = w.os
  tape : w'.tape = w.tape
  output : w'.output = w.output
  block : ∀ b, b < w.heap.size → b ≠ d → b ≠ g → w'.heap[b]? = w.heap[b]?
section
variable {d g : Nat} {a b c : World}
theorem Far2.refl (d g : Nat) (w : World) : Far2 d g w w := ⟨Nat.le_refl _, rfl, rfl, rfl, fun _ _ _ _ => rfl⟩
theorem Far2.trans (h : Far2 d g a b) (k : Far2 d g b c) : Far2 d g a c :=
  ⟨Nat.le_trans h.size k.size, k.os.trans h.os, k.tape.trans h.tape, k.output.trans h.output, fun i hi e1 e2 => (k.block i (Nat.lt_of_lt_of_le hi h.size) e1 e2).trans (h.block i hi e1 e2)⟩
theorem Far2.below (h : Far2 d g a b) (k : Below b.heap.size b c) : Far2 d g a c :=
  h.trans ⟨k.size, k.os, k.tape, k.output, fun i hi _ _ => k.block i hi⟩
theorem Far2.grown (h : Far2 d g a b) (k : b.grownBy c (some d)) : Far2 d g a c :=
  h.trans ⟨k.size, k.os, k.tape, k.output, fun i hi e _ => k.block i hi (by intro e'; injection e' with e'; exact e e')⟩
theorem Far2.alloc (h : Far2 d g a b) (o : Obj) : Far2 d g a (b.alloc o) := h.below ((Below.refl _ _).alloc (Nat.le_refl _) _)
theorem Far2.drew (h : Far2 d g a b) : Far2 d g a b.drew := ⟨h.size, h.os, h.tape, h.output, h.block⟩
theorem Far2.set_ (h : Far2 d g a b) {p : Addr} (hp : p.block = g ∨ a.heap.size ≤ p.block) (u : Value) : Far2 d g a (b.setCell p u) :=
  ⟨by have := h.size; simpa [World.setCell] using this, h.os, h.tape, h.output, fun i hi e1 e2 => (Below.heap_setCell b p u i (by rcases hp with h | h <;> omega)).trans (h.block i hi e1 e2)⟩
theorem Far2.cell (h : Far2 d g a b) {p : Addr} (h1 : p.block < a.heap.size) (h2 : p.block ≠ d) (h3 : p.block ≠ g) : b.cell? p = a.cell? p := World.cell?_of_block (h.block p.block h1 h2 h3)
/-- As seen from below both blocks. -/
theorem Far2.base {w : World} (h : Far2 d g a b) (k : Below d w a) (hd : d ≤ a.heap.size) (hdg : d ≤ g) : Below d w b :=
  ⟨h.os.trans k.os, h.tape.trans k.tape, h.output.trans k.output, Nat.le_trans k.size h.size, fun i hi => (h.block i (by omega) (by omega) (by omega)).trans (k.block i hi)⟩
end
theorem run_index_bools (CS : List Value) (f : Nat → Bool) (hl : CS.length = 17) (h : ∀ j, j < 17 → CS[j]? = some (.bool (f j))) (m : Nat) (W : World) (hm : m < 17) :
    (Instr.index 110 (.agg CS.toArray) (.int .i64 (m : Int))).run Tryz.prog W = .ok (.bool (f m)) W := by
  have h1 := h m hm
  have h2 : (0 : Int) ≤ (m : Int) ∧ (m : Int) < 17 := by omega
  have hu := Tryz.underlying110
  have hb := Tryz.underlying4
  obtain ⟨b0, hbi, hb0, hb1, hb2⟩ := info_parts (show (Tryz.prog.info? 4).map (fun i => (i.zero, i.size, i.bytes)) = some (some (.bool false), 1, 1) by kernel_rfl)
  simp [Instr.index, asIntOf, run_underlying hu, run_underlying hb, part, sizeOf, typeInfo, hbi, hb1, isAgg, h1, h2, hm, go_sem]
theorem own_keepB {w w' : World} {B : Nat} {e : TypeId} {s n : Nat} {v : Value} {xs : List Value} (h : w.ownsRow B e s v n xs) (hk : ∀ b, B ≤ b → b < w.heap.size → w'.heap[b]? = w.heap[b]?) : w'.ownsRow B e s v n xs := by
  refine ⟨h.1, ?_⟩
  rcases h.2 with ⟨rfl, h0⟩ | ⟨g, cap, cur, rfl, hB, hh, r⟩
  · exact .inl ⟨rfl, h0⟩
  · exact .inr ⟨g, cap, cur, rfl, hB, (hk g hB (Array.getElem?_eq_some_iff.1 hh).1).trans hh, r⟩
theorem OwnSh.keepB {w w' : World} {B : Nat} {v : Value} {L : List Sh} (h : OwnSh w B v L) (hk : ∀ b, B ≤ b → b < w.heap.size → w'.heap[b]? = w.heap[b]?) : OwnSh w' B v L := by
  obtain ⟨cells, hr, h2⟩ := h
  refine ⟨cells, own_keepB hr hk, fun k hk' => ?_⟩
  obtain ⟨u, h3, h4, h5⟩ := h2 k hk'
  exact ⟨u, h3, h4, own_keepB h5 hk⟩
theorem ArrV.keepB {w w' : World} {B n : Nat} {f : Nat → Value} (h : ArrV w B n f) (hk : w'.heap[B]? = w.heap[B]?) : ArrV w' B n f :=
  ⟨fun j hj => (World.cell?_of_block (a := ⟨B, j, none⟩) hk).trans (h.cell j hj), fun j hj => (World.frozen?_of_block (a := ⟨B, j, none⟩) hk).trans (h.live j hj)⟩
theorem seenV_step (LT : List Sh) (k lies h : Nat) (hk : k < lies) (hh : (shAt LT k).1 = (h : Int)) (j : Nat) : updV (seenV LT (min k lies)) h (.bool true) j = seenV LT (min (k + 1) lies) j := by
  rw [Nat.min_eq_left (by omega), Nat.min_eq_left (by omega)]
  unfold updV
  by_cases hjH : j = h
  · rw [if_pos hjH]
    unfold seenV
    congr 1
    exact (decide_eq_true ⟨k, by omega, by rw [hh, hjH]⟩).symm
  · rw [if_neg hjH]
    unfold seenV
    congr 1
    rw [decide_eq_decide]
    constructor
    · rintro ⟨i, hi, hii⟩; exact ⟨i, by omega, hii⟩
    · rintro ⟨i, hi, hii⟩
      refine ⟨i, ?_, hii⟩
      rcases Nat.lt_or_ge i k with h | h
      · exact h
      · have : i = k := by omega
        subst this
        rw [hh] at hii; omega
theorem Far2.own {d g : Nat} {a b c : World} (h : Far2 d g a b) {r : Option Nat} (k : b.grownBy c r) (hr : ∀ q, r = some q → a.heap.size ≤ q) : Far2 d g a c :=
  ⟨Nat.le_trans h.size k.size, k.os.trans h.os, k.tape.trans h.tape, k.output.trans h.output, fun i hi e1 e2 => (k.block i (Nat.lt_of_lt_of_le hi h.size) (fun e => by have := hr i e.symm; omega)).trans (h.block i hi e1 e2)⟩
/-- The holders that have lied, as the law counts them. -/
def liarsL (LT : List Sh) (lies : Nat) : List Int := ((List.range 17).filter fun h : Nat => decide (∃ i, i < lies ∧ (shAt LT i).1 = ((h : Nat) : Int))).map Int.ofNat
def liarsM (LT : List Sh) (lies m : Nat) : List Int := ((List.range m).filter fun h : Nat => decide (∃ i, i < lies ∧ (shAt LT i).1 = ((h : Nat) : Int))).map Int.ofNat
theorem liarsM_17 (LT : List Sh) (lies : Nat) : liarsM LT lies 17 = liarsL LT lies := rfl
theorem liarsM_yes {LT : List Sh} {lies m : Nat} (h : decide (∃ i, i < lies ∧ (shAt LT i).1 = (m : Int)) = true) : liarsM LT lies (m + 1) = liarsM LT lies m ++ [(m : Int)] := by
  unfold liarsM
  rw [List.range_succ, List.filter_append, List.map_append]
  congr 1
  rw [List.filter_cons, if_pos h]; rfl
theorem liarsM_no {LT : List Sh} {lies m : Nat} (h : decide (∃ i, i < lies ∧ (shAt LT i).1 = (m : Int)) = false) : liarsM LT lies (m + 1) = liarsM LT lies m := by
  unfold liarsM
  rw [List.range_succ, List.filter_append, List.map_append, List.filter_cons, if_neg (by rw [h]; simp)]
  simp
theorem liarsM_len (LT : List Sh) (lies m : Nat) : (liarsM LT lies m).length ≤ m := by
  unfold liarsM
  rw [List.length_map]
  exact Nat.le_trans (List.length_filter_le _ _) (by simp)
end Go.Proofs.YtjfphobfikadlaaGreatDoor
