/- Contracts: the statement StatementHides. -/
import Derived.Test.YthibelndhcnifaaGreatDoorX22
import Derived.Test.YthibelndhcnifaaGreatDoorX05
import Derived.BigRegion
import Derived.Deep.CutRange
import Derived.Deep.CutBlock
import Derived.Test.YthibelndhcnifaaGreatDoorX44
import Derived.Test.YthibelndhcnifaaGreatDoorX17
set_option linter.unusedVariables false
set_option linter.unusedSimpArgs false
namespace Go.Proofs.YthibelndhcnifaaGreatDoor
open Go.RowKit Num

theorem more_ok {s : Stm} (h : StmSm s) {f : ByteArray} (hf : f.size ≤ 1000) : StmOk (moreS s f) := by
  have h2 := h.ok
  have hn := h.sn
  refine ⟨h2.resp, h2.dep, h2.day, h2.an, h2.ans, by show (s.shw ++ [_]).length ≤ _; rw [List.length_append]; show _ + 1 ≤ _; omega, fun k hk => ?_, h2.cn, h2.cond⟩
  have hm : shwAt (moreS s f).shw k ∈ s.shw ++ [⟨f, boardB⟩] := shwAt_mem hk
  rcases List.mem_append.1 hm with e | e
  · obtain ⟨a, b, -⟩ := h.shw _ e
    exact ⟨by omega, by omega⟩
  · rw [List.mem_singleton.1 e]
    exact ⟨by show f.size ≤ _; omega, by show boardB.size ≤ _; decide⟩
def nobB : ByteArray := ⟨#[110, 111, 98, 111, 100, 121]⟩
theorem nobody_vis {s : Stm} (h : StmSm s) : visS s nobB = ⟨⟨#[]⟩, 0, 0, [], [], []⟩ := none_vis fun x hx e => (h.shw x hx).2.2 (by rw [e]; rfl)
/-- With what two roles see, as values p9 and p10. -/
structure R9 (w W : World) (m q : Nat) (A1 A2 A3 : Option Addr) (n1 c1 n2 c2 n3 c3 : Nat) (s : Stm) (q7 : Nat) (v7 : Value) (f : ByteArray) (p9 p10 : Nat) (va vb : Value) : Prop where
  k : HdK w W m q A1 A2 A3 n1 c1 n2 c2 n3 c3 s q7 v7 (s.shw ++ [⟨f, boardB⟩])
  a : BkS W p9 va (.slice none 0 0) (.slice none 0 0) (visS s boardB)
  b : BkS W p10 vb (.slice none 0 0) (.slice none 0 0) (visS (moreS s f) boardB)
theorem R9.step {w W W' : World} {m q q7 n1 n2 n3 c1 c2 c3 p9 p10 : Nat} {A1 A2 A3 : Option Addr} {s : Stm} {v7 va vb : Value} {f : ByteArray} (h : R9 w W m q A1 A2 A3 n1 c1 n2 c2 n3 c3 s q7 v7 f p9 p10 va vb) (hb : Below W.heap.size W W') : R9 w W' m q A1 A2 A3 n1 c1 n2 c2 n3 c3 s q7 v7 f p9 p10 va vb := ⟨h.k.step hb, h.a.step hb, h.b.step hb⟩
theorem ansAt_get {L : List Ans} {x : Ans} (h : x ∈ L) : ∃ q, q < L.length ∧ ansAt L q = x := by
  obtain ⟨j, hj, e⟩ := List.getElem_of_mem h
  refine ⟨j, hj, ?_⟩
  unfold ansAt; rw [List.getD_eq_getElem?_getD, List.getElem?_eq_getElem hj]; exact e
theorem shwAt_get {L : List Shw} {x : Shw} (h : x ∈ L) : ∃ q, q < L.length ∧ shwAt L q = x := by
  obtain ⟨j, hj, e⟩ := List.getElem_of_mem h
  refine ⟨j, hj, ?_⟩
  unfold shwAt; rw [List.getD_eq_getElem?_getD, List.getElem?_eq_getElem hj]; exact e
theorem in_next {LB : List Ans} {x y : Ans} {i : Nat} {bb : Bool} (hy : ansAt LB i = y) (h : bb = true ↔ ∃ q, q < i ∧ ansAt LB q = x) (cc : Bool) (hc : cc = true ↔ y = x) : (bb || cc) = true ↔ ∃ q, q < i + 1 ∧ ansAt LB q = x := by
  rw [Bool.or_eq_true, h, hc]
  constructor
  · rintro (⟨q, h1, h2⟩ | e)
    · exact ⟨q, by omega, h2⟩
    · exact ⟨i, by omega, hy.trans e⟩
  · rintro ⟨q, h1, h2⟩
    by_cases e : q = i
    · right; rw [← hy, ← e]; exact h2
    · left; exact ⟨q, by omega, h2⟩
theorem sh_next {LB : List Shw} {x y : Shw} {i : Nat} {bb : Bool} (hy : shwAt LB i = y) (h : bb = true ↔ ∃ q, q < i ∧ shwAt LB q = x) (cc : Bool) (hc : cc = true ↔ y = x) : (bb || cc) = true ↔ ∃ q, q < i + 1 ∧ shwAt LB q = x := by
  rw [Bool.or_eq_true, h, hc]
  constructor
  · rintro (⟨q, h1, h2⟩ | e)
    · exact ⟨q, by omega, h2⟩
    · exact ⟨i, by omega, hy.trans e⟩
  · rintro ⟨q, h1, h2⟩
    by_cases e : q = i
    · right; rw [← hy, ← e]; exact h2
    · left; exact ⟨q, by omega, h2⟩
theorem ans_eqb (f1 t1 f2 t2 : ByteArray) (n1 n2 : Int) : ((f1.toList == f2.toList) && (t1.toList == t2.toList) && (n1 == n2)) = true ↔ (⟨f2, t2, n2⟩ : Ans) = ⟨f1, t1, n1⟩ := by
  rw [Bool.and_eq_true, Bool.and_eq_true]
  constructor
  · rintro ⟨⟨h1, h2⟩, h3⟩
    rw [bytes_of h1, bytes_of h2, eq_of_beq h3]
  · intro h
    injection h with h1 h2 h3
    subst h1 h2 h3
    simp
theorem shw_eqb (f1 t1 f2 t2 : ByteArray) : ((f1.toList == f2.toList) && (t1.toList == t2.toList)) = true ↔ (⟨f1, t1⟩ : Shw) = ⟨f2, t2⟩ := by
  rw [Bool.and_eq_true]
  constructor
  · rintro ⟨h1, h2⟩
    rw [bytes_of h1, bytes_of h2]
  · intro h
    injection h with h1 h2
    subst h1 h2
    simp
theorem HdK.s12 {w W : World} {m q q7 n1 n2 n3 c1 c2 c3 n7 c7 : Nat} {A1 A2 A3 A7 : Option Addr} {s : Stm} {L : List Shw} (h : HdK w W m q A1 A2 A3 n1 c1 n2 c2 n3 c3 s q7 (.slice A7 n7 c7) L) : W.cell? ⟨q, 0, none⟩ = some (.string s.resp) ∧ W.cell? ⟨q, 1, none⟩ = some (.int .i64 s.dep) ∧ W.cell? ⟨q, 2, none⟩ = some (.int .i64 s.day) ∧ W.cell? ⟨q, 3, none⟩ = some (.slice A1 n1 c1) ∧ W.cell? ⟨q, 4, none⟩ = some (.slice A2 n2 c2) ∧ W.cell? ⟨q, 5, none⟩ = some (.slice A3 n3 c3) ∧ W.cell? ⟨q7, 0, none⟩ = some (.string s.resp) ∧ W.cell? ⟨q7, 1, none⟩ = some (.int .i64 s.dep) ∧ W.cell? ⟨q7, 2, none⟩ = some (.int .i64 s.day) ∧ W.cell? ⟨q7, 3, none⟩ = some (.slice A1 n1 c1) ∧ W.cell? ⟨q7, 4, none⟩ = some (.slice A2 n2 c2) ∧ W.cell? ⟨q7, 5, none⟩ = some (.slice A7 n7 c7) :=
  ⟨(h.b6.cell 0).trans rfl, (h.b6.cell 1).trans rfl, (h.b6.cell 2).trans rfl, (h.b6.cell 3).trans rfl, (h.b6.cell 4).trans rfl, (h.b6.cell 5).trans rfl, (h.b7.cell 0).trans rfl, (h.b7.cell 1).trans rfl, (h.b7.cell 2).trans rfl, (h.b7.cell 3).trans rfl, (h.b7.cell 4).trans rfl, (h.b7.cell 5).trans rfl⟩
theorem r8_end {w W : World} {m q q7 n1 n2 n3 c1 c2 c3 p9 p10 na ca nb cb : Nat} {A1 A2 A3 Aa Ab : Option Addr} {s t : Stm} {v7 : Value} {L : List Shw} {X : List Nat} (hK : HdK w W m q A1 A2 A3 n1 c1 n2 c2 n3 c3 s q7 v7 L) (hz : ZK W m X) (h9 : p9 ∈ X) (h10 : p10 ∈ X) (hne : p10 ≠ p9)
    (v1 : VsK W X (.slice Aa na ca) (visS s boardB).ans) (v3 : VsK W X (.slice Ab nb cb) (visS t boardB).ans) :
    ∀ W2, W2 = (((((W.setCell ⟨p9, 0, none⟩ (.string (visS s boardB).resp)).setCell ⟨p9, 1, none⟩ (.int .i64 (visS s boardB).dep)).setCell ⟨p9, 2, none⟩ (.int .i64 (visS s boardB).day)).setCell ⟨p9, 3, none⟩ (.slice Aa na ca)).setCell ⟨p9, 4, none⟩ (.slice none 0 0)).setCell ⟨p9, 5, none⟩ (.slice none 0 0) →
      HdK w W2 m q A1 A2 A3 n1 c1 n2 c2 n3 c3 s q7 v7 L ∧ Blk W2 p10 33 stmZ ∧
      ∀ W3, W3 = (((((W2.setCell ⟨p10, 0, none⟩ (.string (visS t boardB).resp)).setCell ⟨p10, 1, none⟩ (.int .i64 (visS t boardB).dep)).setCell ⟨p10, 2, none⟩ (.int .i64 (visS t boardB).day)).setCell ⟨p10, 3, none⟩ (.slice Ab nb cb)).setCell ⟨p10, 4, none⟩ (.slice none 0 0)).setCell ⟨p10, 5, none⟩ (.slice none 0 0) →
        HdK w W3 m q A1 A2 A3 n1 c1 n2 c2 n3 c3 s q7 v7 L ∧ BkS W3 p9 (.slice Aa na ca) (.slice none 0 0) (.slice none 0 0) (visS s boardB) ∧ BkS W3 p10 (.slice Ab nb cb) (.slice none 0 0) (.slice none 0 0) (visS t boardB) := by
  intro W2 hW2
  obtain ⟨hc, hb⟩ := set6 (z0 := .string ⟨#[]⟩) (z1 := .int .i64 0) (z2 := .int .i64 0) (z3 := .slice none 0 0) (z4 := .slice none 0 0) (z5 := .slice none 0 0) (hz.blk p9 h9).2.2 _ _ _ _ _ _ W2 hW2
  have k2 := hK.at_p hc (hz.blk p9 h9).1
  have b2 := hz.at_p hc h10 hne
  refine ⟨k2, b2, fun W3 hW3 => ?_⟩
  obtain ⟨hc3, hb3⟩ := set6 (z0 := .string ⟨#[]⟩) (z1 := .int .i64 0) (z2 := .int .i64 0) (z3 := .slice none 0 0) (z4 := .slice none 0 0) (z5 := .slice none 0 0) b2 _ _ _ _ _ _ W3 hW3
  exact ⟨k2.at_p hc3 (hz.blk p10 h10).1, ⟨(hc3.block p9 hb.lt (fun e => hne e.symm)).trans hb, vis_at (((v1.at_p hc h9).at_p hc3 h10).mono fun b h => h.1)⟩, ⟨hb3, vis_at (((v3.at_p hc h9).at_p hc3 h10).mono fun b h => h.1)⟩⟩
set_option maxRecDepth 100000 in
set_option maxHeartbeats 16000000 in
theorem h_heavy (A : Option Addr) (n c : Nat) (i : Int) (w : World) (hl : ParOk w) (hn : n ≤ 9223372036854775807) (h5 : ¬ n ≤ 500) : Calls Tryz.prog 3 #[.slice A n c, .int .u8 i] w (AwkO w) := by
  have HL := Lib.hid hl
  clear hl
  go_enter Tryz.func3, Tryz.ntmps3
  go_wp2_with fail
  refine (lb_F A n c _ hn h5).mono ?_
  rintro e w1 ⟨rfl, rfl⟩
  go_wp2_with fail
  refine (aw_awake _ HL.out).mono ?_
  rintro e w9 ⟨rfl, hb9⟩
  have HB9 := Lib.hid hb9
  clear hb9
  go_wp2_with fail
  go_ret
  exact ⟨rfl, HB9.out⟩
set_option maxRecDepth 100000 in
set_option maxHeartbeats 16000000 in
theorem h_light (A : Option Addr) (n c : Nat) (i : Int) (w : World) (hl : ParOk w) (hn : n ≤ 9223372036854775807) (h5 : n ≤ 500) (har : ArgL w (.slice A n c)) (hi : 0 ≤ i ∧ i < 256) : Calls Tryz.prog 3 #[.slice A n c, .int .u8 i] w (AwkO w) := by
  obtain ⟨j0, hj, hy0, hy1, hy2⟩ := info_parts infoSw
  have HL := Lib.hid hl
  have HAR := Lib.hid har
  clear hl har
  go_enter Tryz.func3, Tryz.ntmps3
  go_wp2_with fail
  refine (lb_T A n c _ hn h5).mono ?_
  rintro e w1 ⟨rfl, rfl⟩
  go_wp2_with fail
  refine (k_Roll _ _ HAR.out).mono ?_
  rintro e w1 ⟨rfl, hd1, hb1⟩
  have hdb := hd1.lt
  have HD1 := Lib.hid hd1
  have HB1 := Lib.hid hb1
  clear hd1 hb1
  go_wp2_with fail
  refine (k_Form w.heap.size w1 HD1.out).mono ?_
  rintro e w2 ⟨t, Af, nf, cf, Lf, rfl, hF, -, hlf, hsm, hd2, hg2⟩
  have hst := k_Statement w.heap.size t Af nf cf Lf w2 hd2 (hF.mono fun b hb => ⟨by omega, hb.2⟩) (by omega) (fun k hk => Nat.le_trans (hsm k hk).1 (by omega))
  have HST := Lib.hid hst
  have HG2 := Lib.hid hg2
  have hz2 := hg2.size
  clear hF hlf hsm hd2 hg2 hst HD1
  go_wp2_with fail
  refine HST.out.mono ?_
  rintro e w3 ⟨s, A1, n1, c1, A2, n2, c2, A3, n3, c3, rfl, hS, hm1, hd3, hg3⟩
  have hz3 := hg3.size
  have hB5 : Below w.heap.size w w3 := HB1.out.grown (gb_trans HG2.out hg3) (by omega) (fun g hg => by injection hg; omega)
  have hS' : StmAt w3 (· < w3.heap.size) (.slice A1 n1 c1) (.slice A2 n2 c2) (.slice A3 n3 c3) s := hS.mono fun b hb => hb.2
  have hK : HdK w ((w3.alloc (.cells #[.string s.resp, .int .i64 s.dep, .int .i64 s.day, .slice A1 n1 c1, .slice A2 n2 c2, .slice A3 n3 c3] 33)).alloc (.cells #[.string s.resp, .int .i64 s.dep, .int .i64 s.day, .slice A1 n1 c1, .slice A2 n2 c2, .slice A3 n3 c3] 33)) (w3.heap.size + 1 + 1) w3.heap.size A1 A2 A3 n1 c1 n2 c2 n3 c3 s (w3.heap.size + 1) (.slice A3 n3 c3) s.shw := by
    have hX1 := BkS.new hS'
    have hX2 := BkS.new hX1.at_
    rw [World.size_alloc] at hX2
    exact ⟨(hX1.alloc _).blk, (hS'.keep fun b hb => (Below.heap_alloc _ _ b (by rw [World.size_alloc]; omega)).trans (Below.heap_alloc _ _ b hb)), hX2.blk, hX2.at_.ss.mono fun b hb => by rw [World.size_alloc, World.size_alloc] at hb; exact hb, (hB5.alloc hB5.size _).alloc (by have := hB5.size; rw [World.size_alloc]; omega) _, by have := hB5.size; simp; omega⟩
  have hm2 := hm1.ok
  have HM := Lib.hid (And.intro hm1 hm2)
  have HK0 := Lib.hid hK
  clear hB5 hS hm1 hm2 hd3 hg3 HST HG2 hS' hK HB1
  go_upto_region 6 with fail
  have hsz : ((w3.alloc (.cells #[.string s.resp, .int .i64 s.dep, .int .i64 s.day, .slice A1 n1 c1, .slice A2 n2 c2, .slice A3 n3 c3] 33)).alloc (.cells #[.string s.resp, .int .i64 s.dep, .int .i64 s.day, .slice A1 n1 c1, .slice A2 n2 c2, .slice A3 n3 c3] 33)).heap.size = w3.heap.size + 1 + 1 := by simp
  generalize ((w3.alloc (.cells #[.string s.resp, .int .i64 s.dep, .int .i64 s.day, .slice A1 n1 c1, .slice A2 n2 c2, .slice A3 n3 c3] 33)).alloc (.cells #[.string s.resp, .int .i64 s.dep, .int .i64 s.day, .slice A1 n1 c1, .slice A2 n2 c2, .slice A3 n3 c3] 33)) = wa at HK0 hsz ⊢
  obtain ⟨q, hq⟩ : ∃ q, w3.heap.size = q := ⟨_, rfl⟩
  rw [hq] at HK0 hsz
  try rw [hq]
  obtain ⟨q7, hq7⟩ : ∃ q7, q + 1 = q7 := ⟨_, rfl⟩
  rw [hq7] at HK0 hsz
  try rw [hq7]
  obtain ⟨m, hm⟩ : ∃ m, q7 + 1 = m := ⟨_, rfl⟩
  rw [hm] at HK0 hsz
  try rw [hm]
  clear hq hz3 hq7 hm
  go_cut [8] from 32 to 36 (fun v8 wx => ∃ f : ByteArray, v8 = .string f ∧ f.size ≤ 1000 ∧ HdK w wx m q A1 A2 A3 n1 c1 n2 c2 n3 c3 s q7 (.slice A3 n3 c3) s.shw)
  case first =>
    have hk : (i % 4).toNat = 0 ∨ (i % 4).toNat = 1 ∨ (i % 4).toNat = 2 ∨ (i % 4).toNat = 3 := by omega
    have hKd := HK0.out.alloc (.cells #[.string whatB, .string kindW, .string respB, .string dayB] 9)
    have HKD := Lib.hid hKd
    have z4 : i % 4 < 4 := by omega
    have z0 : 0 ≤ i % 4 := by omega
    clear hKd HK0
    go_wp2_with fail
    go_meet
    rcases hk with h | h | h | h <;> simp only [h] <;> exact ⟨_, rfl, by decide, HKD.out⟩
  case rest =>
  obtain ⟨f, rfl, hfs, hkd⟩ := hcut
  have HFS := Lib.hid hfs
  rename World => wd
  have HKD := Lib.hid hkd
  have hx5 := (hkd.b6.cell 5).trans (show _ = some (Value.slice A3 n3 c3) from rfl)
  have HSS := Lib.hid hkd.full.ss
  have hl3 := HM.out.1.sn
  have HL3 := Lib.hid (show s.shw.length ≤ 1000000 by omega)
  clear hkd HK0 hsz
  go_upto_region 7 with fail
  go_wp2_with (at_builtin; refine wpList_copy_shows rfl _ _ rfl rfl (· < wd.heap.size) A3 n3 c3 s.shw HSS.out rfl HL3.out ?_)
  intro v' wb hown hbb
  obtain ⟨Ab, cb, hvb⟩ := own_slice hown
  subst hvb
  have hzb := hbb.size
  have hlb := hown.lt
  have HOB := Lib.hid hown
  have HBB := Lib.hid hbb
  have nw := World.news_of_block (cs := #[.string f, .string boardB]) (t := 41) (fr := (0, 0)) (heap_alloc_new wb (.cells #[.string f, .string boardB] 41))
  have NW := Lib.hid nw
  clear nw hown hbb hx5 HSS
  go_wp2_with (at_builtin; refine wpList_append_own_at _ rfl _ _ 31 rfl wd.heap.size 41 j0 (.agg #[.string ⟨#[]⟩, .string ⟨#[]⟩]) 2 32 Tryz.underlying31 hj hy0 hy1 hy2 rfl (by decide) (.slice Ab s.shw.length cb) s.shw.length (shwC s.shw) rfl (HOB.out.alloc _) ⟨wb.heap.size, 0, none⟩ 1 1 [.string f, .string boardB] rfl rfl NW.out (by intro u hu; simp at hu; rcases hu with rfl | rfl <;> rfl) (by unfold maxLen; omega) (by omega) (by rw [World.size_alloc]; omega) ?_)
  intro v2 wc hown2 hgrow2 _ hat2
  obtain ⟨A9, c9, hv2⟩ := own_slice hown2
  subst hv2
  have hbc : Below wd.heap.size wd wc := (HBB.out.alloc HBB.out.size _).grown hgrow2 (by rw [World.size_alloc]; omega) (fun g hg => (hlb g hg).1)
  have hmo := HKD.out.more (v9 := .slice A9 (s.shw.length + 1) c9) (M := s.shw ++ [⟨f, boardB⟩]) hbc (ShwsAt.of_own (n := s.shw.length + 1) (by rw [shwC_snoc]; exact hown2)) (m' := wc.heap.size) rfl
  have MO := Lib.hid hmo.1
  have mc := hmo.2.1
  have mf := hmo.2.2
  clear hown2 hgrow2 hat2 hbc hmo HOB HBB NW HKD hlb
  go_upto_region 8 with fail
  generalize wc.setCell ⟨q7, 5, none⟩ (.slice A9 (s.shw.length + 1) c9) = we at MO ⊢
  obtain ⟨m8, hm8⟩ : ∃ m8, wc.heap.size = m8 := ⟨_, rfl⟩
  rw [hm8] at MO
  obtain ⟨n7, hn7⟩ : ∃ n7, s.shw.length + 1 = n7 := ⟨_, rfl⟩
  rw [hn7] at MO ⊢
  have hmx : Tryz.prog.follows .mixedOrders = true := by kernel_rfl
  have hot : StmOk (moreS s f) := more_ok HM.out.1 HFS.out
  have HOT := Lib.hid hot
  clear hot hm8 hn7
  go_cut [9, 10] from 45 to 48 (fun v9 v10 wx => ∃ p9 p10 Aa na ca Ab nb cb, v9 = .pointer (some ⟨p9, 0, none⟩) ∧ v10 = .pointer (some ⟨p10, 0, none⟩) ∧ HdK w wx m8 q A1 A2 A3 n1 c1 n2 c2 n3 c3 s q7 (.slice A9 n7 c9) (s.shw ++ [⟨f, boardB⟩]) ∧ BkS wx p9 (.slice Aa na ca) (.slice none 0 0) (.slice none 0 0) (visS s boardB) ∧ BkS wx p10 (.slice Ab nb cb) (.slice none 0 0) (.slice none 0 0) (visS (moreS s f) boardB))
  case first =>
    have hk0 : HdK w we.drew m8 q A1 A2 A3 n1 c1 n2 c2 n3 c3 s q7 (.slice A9 n7 c9) (s.shw ++ [⟨f, boardB⟩]) := MO.out.drew
    have KK0 := Lib.hid hk0
    have Z0 := Lib.hid (ZK.nil we.drew m8)
    have c0 := hk0.s12
    clear hk0 MO
    refine wp_region_last_lit _ _ (fun W => W.cell? ⟨q, 0, none⟩ = some (.string s.resp) ∧ W.cell? ⟨q, 1, none⟩ = some (.int .i64 s.dep) ∧ W.cell? ⟨q, 2, none⟩ = some (.int .i64 s.day) ∧ W.cell? ⟨q, 3, none⟩ = some (.slice A1 n1 c1) ∧ W.cell? ⟨q, 4, none⟩ = some (.slice A2 n2 c2) ∧ W.cell? ⟨q, 5, none⟩ = some (.slice A3 n3 c3) ∧ W.cell? ⟨q7, 0, none⟩ = some (.string s.resp) ∧ W.cell? ⟨q7, 1, none⟩ = some (.int .i64 s.dep) ∧ W.cell? ⟨q7, 2, none⟩ = some (.int .i64 s.day) ∧ W.cell? ⟨q7, 3, none⟩ = some (.slice A1 n1 c1) ∧ W.cell? ⟨q7, 4, none⟩ = some (.slice A2 n2 c2) ∧ W.cell? ⟨q7, 5, none⟩ = some (.slice A9 n7 c9)) hmx rfl (by kernel_rfl) c0 (fun hS => ?_)
    simp only [List.dropLast]
    clear c0
    obtain ⟨x0, hx0⟩ : ∃ x, we.drew = x := ⟨_, rfl⟩
    rw [hx0] at KK0 Z0 hS ⊢
    clear hx0
    refine wpAnyH_take (i := 0) (v := ?_) rfl (by kernel_rfl) (by kernel_rfl) (by kernel_rfl) (fun _ _ _ h => h) (Or.inl ⟨by rfl, ?_⟩) (by assumption) ?_
    rotate_left
    · (intro w hSw; (try dsimp only at hSw); (try go_split_ands); go_simp; (try with_reducible rfl))
    try simp only [Act.put, List.setIfInBounds_toArray, List.set_cons_zero, List.set_cons_succ]
    refine wpAnyH_take (i := 2) (v := ?_) rfl (by kernel_rfl) (by kernel_rfl) (by kernel_rfl) (fun _ _ _ h => h) (Or.inl ⟨by rfl, ?_⟩) (by assumption) ?_
    rotate_left
    · (intro w hSw; (try dsimp only at hSw); (try go_split_ands); go_simp; (try with_reducible rfl))
    try simp only [Act.put, List.setIfInBounds_toArray, List.set_cons_zero, List.set_cons_succ]
    refine wpAnyH_ready (rs := [1, 4, 5]) (by kernel_rfl) (by simp) ?_
    refine AllReadyH.cons rfl (fun K hK => ?_) (AllReadyH.cons rfl (fun K hK => ?_) (AllReadyH.cons rfl (fun K hK => ?_) AllReadyH.nil))
    · go_simp
      refine (v_Visible s boardB _ _ _ x0 KK0.out.full HM.out.2).mono ?_
      rintro e x1 ⟨Av1, nv1, cv1, rfl, hat, hbl⟩
      have KK1 := Lib.hid (KK0.out.step hbl)
      have Z1 := Lib.hid (Z0.out.step hbl)
      have V11 := Lib.hid (VsK.new hat Z0.out)
      clear hat hbl
      refine hK.out _ _ KK1.out.s12 (fun hHeld => ?_)
      clear hK K
      try simp only [Act.put, List.setIfInBounds_toArray, List.set_cons_zero, List.set_cons_succ]
      refine wpAnyH_ready (rs := [3, 4, 5]) (by kernel_rfl) (by simp) ?_
      refine AllReadyH.cons rfl (fun K hK => ?_) (AllReadyH.cons rfl (fun K hK => ?_) (AllReadyH.cons rfl (fun K hK => ?_) AllReadyH.nil))
      · go_simp
        refine (v_Visible (moreS s f) boardB _ _ _ x1 KK1.out.full7 HOT.out).mono ?_
        rintro e x2 ⟨Av2, nv2, cv2, rfl, hat, hbl⟩
        have KK2 := Lib.hid (KK1.out.step hbl)
        have Z2 := Lib.hid (Z1.out.step hbl)
        have V12 := Lib.hid (V11.out.step hbl)
        have V32 := Lib.hid (VsK.new hat Z1.out)
        clear hat hbl
        refine hK.out _ _ KK2.out.s12 (fun hHeld => ?_)
        clear hK K
        try simp only [Act.put, List.setIfInBounds_toArray, List.set_cons_zero, List.set_cons_succ]
        refine wpAnyH_ready (rs := [4, 5]) (by kernel_rfl) (by simp) ?_
        refine AllReadyH.cons rfl (fun K hK => ?_) (AllReadyH.cons rfl (fun K hK => ?_) AllReadyH.nil)
        · go_simp
          have KK3 := Lib.hid (KK2.out.alloc (.cells #[.string ⟨#[]⟩, .int .i64 0, .int .i64 0, .slice none 0 0, .slice none 0 0, .slice none 0 0] 33))
          have Z3 : Hid (ZK (x2.alloc (.cells #[.string ⟨#[]⟩, .int .i64 0, .int .i64 0, .slice none 0 0, .slice none 0 0, .slice none 0 0] 33)) m8 (x2.heap.size :: [])) := Lib.hid (Z2.out.alloc KK2.out.new.2.2.2)
          have V13 := Lib.hid (V12.out.alloc (.cells #[.string ⟨#[]⟩, .int .i64 0, .int .i64 0, .slice none 0 0, .slice none 0 0, .slice none 0 0] 33))
          have V33 := Lib.hid (V32.out.alloc (.cells #[.string ⟨#[]⟩, .int .i64 0, .int .i64 0, .slice none 0 0, .slice none 0 0, .slice none 0 0] 33))
          refine hK.out _ _ KK3.out.s12 (fun hHeld => ?_)
          clear hK K
          try simp only [Act.put, List.setIfInBounds_toArray, List.set_cons_zero, List.set_cons_succ]
          obtain ⟨x3, hx3⟩ : ∃ x, (x2.alloc (.cells #[.string ⟨#[]⟩, .int .i64 0, .int .i64 0, .slice none 0 0, .slice none 0 0, .slice none 0 0] 33)) = x := ⟨_, rfl⟩
          rw [hx3] at KK3 Z3 V13 V33 hHeld ⊢
          clear hx3
          obtain ⟨p3, hp3⟩ : ∃ p, x2.heap.size = p := ⟨_, rfl⟩
          rw [hp3] at Z3 V13 V33 ⊢
          clear hp3
          refine wpAnyH_ready (rs := [5]) (by kernel_rfl) (by simp) ?_
          refine AllReadyH.cons rfl (fun K hK => ?_) AllReadyH.nil
          go_simp
          have KK4 := Lib.hid (KK3.out.alloc (.cells #[.string ⟨#[]⟩, .int .i64 0, .int .i64 0, .slice none 0 0, .slice none 0 0, .slice none 0 0] 33))
          have Z4 : Hid (ZK (x3.alloc (.cells #[.string ⟨#[]⟩, .int .i64 0, .int .i64 0, .slice none 0 0, .slice none 0 0, .slice none 0 0] 33)) m8 (x3.heap.size :: (p3 :: []))) := Lib.hid (Z3.out.alloc KK3.out.new.2.2.2)
          have V14 := Lib.hid (V13.out.alloc (.cells #[.string ⟨#[]⟩, .int .i64 0, .int .i64 0, .slice none 0 0, .slice none 0 0, .slice none 0 0] 33))
          have V34 := Lib.hid (V33.out.alloc (.cells #[.string ⟨#[]⟩, .int .i64 0, .int .i64 0, .slice none 0 0, .slice none 0 0, .slice none 0 0] 33))
          refine hK.out _ _ KK4.out.s12 (fun hHeld => ?_)
          clear hK K
          try simp only [Act.put, List.setIfInBounds_toArray, List.set_cons_zero, List.set_cons_succ]
          obtain ⟨x4, hx4⟩ : ∃ x, (x3.alloc (.cells #[.string ⟨#[]⟩, .int .i64 0, .int .i64 0, .slice none 0 0, .slice none 0 0, .slice none 0 0] 33)) = x := ⟨_, rfl⟩
          rw [hx4] at KK4 Z4 V14 V34 hHeld ⊢
          clear hx4
          obtain ⟨p4, hp4⟩ : ∃ p, x3.heap.size = p := ⟨_, rfl⟩
          rw [hp4] at Z4 V14 V34 ⊢
          clear hp4
          have hz9 := (Z4.out.blk p3 (by simp)).2.2
          have y0 := (hz9.cell 0).trans (show _ = some (Value.string ⟨#[]⟩) from rfl)
          have y1 := (hz9.cell 1).trans (show _ = some (Value.int .i64 0) from rfl)
          have y2 := (hz9.cell 2).trans (show _ = some (Value.int .i64 0) from rfl)
          have y3 := (hz9.cell 3).trans (show _ = some (Value.slice none 0 0) from rfl)
          have y4 := (hz9.cell 4).trans (show _ = some (Value.slice none 0 0) from rfl)
          have y5 := (hz9.cell 5).trans (show _ = some (Value.slice none 0 0) from rfl)
          have g0 := hz9.frozen 0
          have g1 := hz9.frozen 1
          have g2 := hz9.frozen 2
          have g3 := hz9.frozen 3
          have g4 := hz9.frozen 4
          have g5 := hz9.frozen 5
          clear hz9
          refine wpAnyH_ready (rs := [6]) (by kernel_rfl) (by simp) ?_
          refine AllReadyH.cons rfl (fun K hK => ?_) AllReadyH.nil
          go_simp
          obtain ⟨k2, b2, fin⟩ := r8_end KK4.out Z4.out (p9 := p3) (p10 := p4) (by simp) (by simp) (by have h := Z4.out.nd; simp at h; omega) V14.out V34.out _ rfl
          refine hK.out _ _ k2.s12 (fun hHeld => ?_)
          clear hK K y0 g0 y1 g1 y2 g2 y3 g3 y4 g4 y5 g5
          try simp only [Act.put, List.setIfInBounds_toArray, List.set_cons_zero, List.set_cons_succ]
          have FIN := Lib.hid fin
          clear fin
          have y0 := (b2.cell 0).trans (show _ = some (Value.string ⟨#[]⟩) from rfl)
          have y1 := (b2.cell 1).trans (show _ = some (Value.int .i64 0) from rfl)
          have y2 := (b2.cell 2).trans (show _ = some (Value.int .i64 0) from rfl)
          have y3 := (b2.cell 3).trans (show _ = some (Value.slice none 0 0) from rfl)
          have y4 := (b2.cell 4).trans (show _ = some (Value.slice none 0 0) from rfl)
          have y5 := (b2.cell 5).trans (show _ = some (Value.slice none 0 0) from rfl)
          have g0 := b2.frozen 0
          have g1 := b2.frozen 1
          have g2 := b2.frozen 2
          have g3 := b2.frozen 3
          have g4 := b2.frozen 4
          have g5 := b2.frozen 5
          clear b2 k2
          generalize (((((x4.setCell ⟨p3, 0, none⟩ (.string (visS s boardB).resp)).setCell ⟨p3, 1, none⟩ (.int .i64 (visS s boardB).dep)).setCell ⟨p3, 2, none⟩ (.int .i64 (visS s boardB).day)).setCell ⟨p3, 3, none⟩ (.slice Av1 nv1 cv1)).setCell ⟨p3, 4, none⟩ (.slice none 0 0)).setCell ⟨p3, 5, none⟩ (.slice none 0 0) = wz at FIN hHeld y0 g0 y1 g1 y2 g2 y3 g3 y4 g4 y5 g5 ⊢
          refine wpAnyH_done (by kernel_rfl) ?_ _
          refine lastQ_step (by rfl) (by rfl) ?_
          go_simp
          (try go_wp2_with fail)
          go_meet
          exact ⟨p3, p4, _, _, _, _, _, _, rfl, rfl, FIN.out _ rfl⟩
        · go_simp
          have KK5 := Lib.hid (KK2.out.alloc (.cells #[.string ⟨#[]⟩, .int .i64 0, .int .i64 0, .slice none 0 0, .slice none 0 0, .slice none 0 0] 33))
          have Z5 : Hid (ZK (x2.alloc (.cells #[.string ⟨#[]⟩, .int .i64 0, .int .i64 0, .slice none 0 0, .slice none 0 0, .slice none 0 0] 33)) m8 (x2.heap.size :: [])) := Lib.hid (Z2.out.alloc KK2.out.new.2.2.2)
          have V15 := Lib.hid (V12.out.alloc (.cells #[.string ⟨#[]⟩, .int .i64 0, .int .i64 0, .slice none 0 0, .slice none 0 0, .slice none 0 0] 33))
          have V35 := Lib.hid (V32.out.alloc (.cells #[.string ⟨#[]⟩, .int .i64 0, .int .i64 0, .slice none 0 0, .slice none 0 0, .slice none 0 0] 33))
          refine hK.out _ _ KK5.out.s12 (fun hHeld => ?_)
          clear hK K
          try simp only [Act.put, List.setIfInBounds_toArray, List.set_cons_zero, List.set_cons_succ]
          obtain ⟨x5, hx5⟩ : ∃ x, (x2.alloc (.cells #[.string ⟨#[]⟩, .int .i64 0, .int .i64 0, .slice none 0 0, .slice none 0 0, .slice none 0 0] 33)) = x := ⟨_, rfl⟩
          rw [hx5] at KK5 Z5 V15 V35 hHeld ⊢
          clear hx5
          obtain ⟨p5, hp5⟩ : ∃ p, x2.heap.size = p := ⟨_, rfl⟩
          rw [hp5] at Z5 V15 V35 ⊢
          clear hp5
          refine wpAnyH_ready (rs := [4]) (by kernel_rfl) (by simp) ?_
          refine AllReadyH.cons rfl (fun K hK => ?_) AllReadyH.nil
          go_simp
          have KK6 := Lib.hid (KK5.out.alloc (.cells #[.string ⟨#[]⟩, .int .i64 0, .int .i64 0, .slice none 0 0, .slice none 0 0, .slice none 0 0] 33))
          have Z6 : Hid (ZK (x5.alloc (.cells #[.string ⟨#[]⟩, .int .i64 0, .int .i64 0, .slice none 0 0, .slice none 0 0, .slice none 0 0] 33)) m8 (x5.heap.size :: (p5 :: []))) := Lib.hid (Z5.out.alloc KK5.out.new.2.2.2)
          have V16 := Lib.hid (V15.out.alloc (.cells #[.string ⟨#[]⟩, .int .i64 0, .int .i64 0, .slice none 0 0, .slice none 0 0, .slice none 0 0] 33))
          have V36 := Lib.hid (V35.out.alloc (.cells #[.string ⟨#[]⟩, .int .i64 0, .int .i64 0, .slice none 0 0, .slice none 0 0, .slice none 0 0] 33))
          refine hK.out _ _ KK6.out.s12 (fun hHeld => ?_)
          clear hK K
          try simp only [Act.put, List.setIfInBounds_toArray, List.set_cons_zero, List.set_cons_succ]
          obtain ⟨x6, hx6⟩ : ∃ x, (x5.alloc (.cells #[.string ⟨#[]⟩, .int .i64 0, .int .i64 0, .slice none 0 0, .slice none 0 0, .slice none 0 0] 33)) = x := ⟨_, rfl⟩
          rw [hx6] at KK6 Z6 V16 V36 hHeld ⊢
          clear hx6
          obtain ⟨p6, hp6⟩ : ∃ p, x5.heap.size = p := ⟨_, rfl⟩
          rw [hp6] at Z6 V16 V36 ⊢
          clear hp6
          have hz9 := (Z6.out.blk p6 (by simp)).2.2
          have y0 := (hz9.cell 0).trans (show _ = some (Value.string ⟨#[]⟩) from rfl)
          have y1 := (hz9.cell 1).trans (show _ = some (Value.int .i64 0) from rfl)
          have y2 := (hz9.cell 2).trans (show _ = some (Value.int .i64 0) from rfl)
          have y3 := (hz9.cell 3).trans (show _ = some (Value.slice none 0 0) from rfl)
          have y4 := (hz9.cell 4).trans (show _ = some (Value.slice none 0 0) from rfl)
          have y5 := (hz9.cell 5).trans (show _ = some (Value.slice none 0 0) from rfl)
          have g0 := hz9.frozen 0
          have g1 := hz9.frozen 1
          have g2 := hz9.frozen 2
          have g3 := hz9.frozen 3
          have g4 := hz9.frozen 4
          have g5 := hz9.frozen 5
          clear hz9
          refine wpAnyH_ready (rs := [6]) (by kernel_rfl) (by simp) ?_
          refine AllReadyH.cons rfl (fun K hK => ?_) AllReadyH.nil
          go_simp
          obtain ⟨k2, b2, fin⟩ := r8_end KK6.out Z6.out (p9 := p6) (p10 := p5) (by simp) (by simp) (by have h := Z6.out.nd; simp at h; omega) V16.out V36.out _ rfl
          refine hK.out _ _ k2.s12 (fun hHeld => ?_)
          clear hK K y0 g0 y1 g1 y2 g2 y3 g3 y4 g4 y5 g5
          try simp only [Act.put, List.setIfInBounds_toArray, List.set_cons_zero, List.set_cons_succ]
          have FIN := Lib.hid fin
          clear fin
          have y0 := (b2.cell 0).trans (show _ = some (Value.string ⟨#[]⟩) from rfl)
          have y1 := (b2.cell 1).trans (show _ = some (Value.int .i64 0) from rfl)
          have y2 := (b2.cell 2).trans (show _ = some (Value.int .i64 0) from rfl)
          have y3 := (b2.cell 3).trans (show _ = some (Value.slice none 0 0) from rfl)
          have y4 := (b2.cell 4).trans (show _ = some (Value.slice none 0 0) from rfl)
          have y5 := (b2.cell 5).trans (show _ = some (Value.slice none 0 0) from rfl)
          have g0 := b2.frozen 0
          have g1 := b2.frozen 1
          have g2 := b2.frozen 2
          have g3 := b2.frozen 3
          have g4 := b2.frozen 4
          have g5 := b2.frozen 5
          clear b2 k2
          generalize (((((x6.setCell ⟨p6, 0, none⟩ (.string (visS s boardB).resp)).setCell ⟨p6, 1, none⟩ (.int .i64 (visS s boardB).dep)).setCell ⟨p6, 2, none⟩ (.int .i64 (visS s boardB).day)).setCell ⟨p6, 3, none⟩ (.slice Av1 nv1 cv1)).setCell ⟨p6, 4, none⟩ (.slice none 0 0)).setCell ⟨p6, 5, none⟩ (.slice none 0 0) = wz at FIN hHeld y0 g0 y1 g1 y2 g2 y3 g3 y4 g4 y5 g5 ⊢
          refine wpAnyH_done (by kernel_rfl) ?_ _
          refine lastQ_step (by rfl) (by rfl) ?_
          go_simp
          (try go_wp2_with fail)
          go_meet
          exact ⟨p6, p5, _, _, _, _, _, _, rfl, rfl, FIN.out _ rfl⟩
      · go_simp
        have KK7 := Lib.hid (KK1.out.alloc (.cells #[.string ⟨#[]⟩, .int .i64 0, .int .i64 0, .slice none 0 0, .slice none 0 0, .slice none 0 0] 33))
        have Z7 : Hid (ZK (x1.alloc (.cells #[.string ⟨#[]⟩, .int .i64 0, .int .i64 0, .slice none 0 0, .slice none 0 0, .slice none 0 0] 33)) m8 (x1.heap.size :: [])) := Lib.hid (Z1.out.alloc KK1.out.new.2.2.2)
        have V17 := Lib.hid (V11.out.alloc (.cells #[.string ⟨#[]⟩, .int .i64 0, .int .i64 0, .slice none 0 0, .slice none 0 0, .slice none 0 0] 33))
        refine hK.out _ _ KK7.out.s12 (fun hHeld => ?_)
        clear hK K
        try simp only [Act.put, List.setIfInBounds_toArray, List.set_cons_zero, List.set_cons_succ]
        obtain ⟨x7, hx7⟩ : ∃ x, (x1.alloc (.cells #[.string ⟨#[]⟩, .int .i64 0, .int .i64 0, .slice none 0 0, .slice none 0 0, .slice none 0 0] 33)) = x := ⟨_, rfl⟩
        rw [hx7] at KK7 Z7 V17 hHeld ⊢
        clear hx7
        obtain ⟨p7, hp7⟩ : ∃ p, x1.heap.size = p := ⟨_, rfl⟩
        rw [hp7] at Z7 V17 ⊢
        clear hp7
        refine wpAnyH_ready (rs := [3, 5]) (by kernel_rfl) (by simp) ?_
        refine AllReadyH.cons rfl (fun K hK => ?_) (AllReadyH.cons rfl (fun K hK => ?_) AllReadyH.nil)
        · go_simp
          refine (v_Visible (moreS s f) boardB _ _ _ x7 KK7.out.full7 HOT.out).mono ?_
          rintro e x8 ⟨Av8, nv8, cv8, rfl, hat, hbl⟩
          have KK8 := Lib.hid (KK7.out.step hbl)
          have Z8 := Lib.hid (Z7.out.step hbl)
          have V18 := Lib.hid (V17.out.step hbl)
          have V38 := Lib.hid (VsK.new hat Z7.out)
          clear hat hbl
          refine hK.out _ _ KK8.out.s12 (fun hHeld => ?_)
          clear hK K
          try simp only [Act.put, List.setIfInBounds_toArray, List.set_cons_zero, List.set_cons_succ]
          refine wpAnyH_ready (rs := [5]) (by kernel_rfl) (by simp) ?_
          refine AllReadyH.cons rfl (fun K hK => ?_) AllReadyH.nil
          go_simp
          have KK9 := Lib.hid (KK8.out.alloc (.cells #[.string ⟨#[]⟩, .int .i64 0, .int .i64 0, .slice none 0 0, .slice none 0 0, .slice none 0 0] 33))
          have Z9 : Hid (ZK (x8.alloc (.cells #[.string ⟨#[]⟩, .int .i64 0, .int .i64 0, .slice none 0 0, .slice none 0 0, .slice none 0 0] 33)) m8 (x8.heap.size :: (p7 :: []))) := Lib.hid (Z8.out.alloc KK8.out.new.2.2.2)
          have V19 := Lib.hid (V18.out.alloc (.cells #[.string ⟨#[]⟩, .int .i64 0, .int .i64 0, .slice none 0 0, .slice none 0 0, .slice none 0 0] 33))
          have V39 := Lib.hid (V38.out.alloc (.cells #[.string ⟨#[]⟩, .int .i64 0, .int .i64 0, .slice none 0 0, .slice none 0 0, .slice none 0 0] 33))
          refine hK.out _ _ KK9.out.s12 (fun hHeld => ?_)
          clear hK K
          try simp only [Act.put, List.setIfInBounds_toArray, List.set_cons_zero, List.set_cons_succ]
          obtain ⟨x9, hx9⟩ : ∃ x, (x8.alloc (.cells #[.string ⟨#[]⟩, .int .i64 0, .int .i64 0, .slice none 0 0, .slice none 0 0, .slice none 0 0] 33)) = x := ⟨_, rfl⟩
          rw [hx9] at KK9 Z9 V19 V39 hHeld ⊢
          clear hx9
          obtain ⟨p9, hp9⟩ : ∃ p, x8.heap.size = p := ⟨_, rfl⟩
          rw [hp9] at Z9 V19 V39 ⊢
          clear hp9
          have hz9 := (Z9.out.blk p7 (by simp)).2.2
          have y0 := (hz9.cell 0).trans (show _ = some (Value.string ⟨#[]⟩) from rfl)
          have y1 := (hz9.cell 1).trans (show _ = some (Value.int .i64 0) from rfl)
          have y2 := (hz9.cell 2).trans (show _ = some (Value.int .i64 0) from rfl)
          have y3 := (hz9.cell 3).trans (show _ = some (Value.slice none 0 0) from rfl)
          have y4 := (hz9.cell 4).trans (show _ = some (Value.slice none 0 0) from rfl)
          have y5 := (hz9.cell 5).trans (show _ = some (Value.slice none 0 0) from rfl)
          have g0 := hz9.frozen 0
          have g1 := hz9.frozen 1
          have g2 := hz9.frozen 2
          have g3 := hz9.frozen 3
          have g4 := hz9.frozen 4
          have g5 := hz9.frozen 5
          clear hz9
          refine wpAnyH_ready (rs := [6]) (by kernel_rfl) (by simp) ?_
          refine AllReadyH.cons rfl (fun K hK => ?_) AllReadyH.nil
          go_simp
          obtain ⟨k2, b2, fin⟩ := r8_end KK9.out Z9.out (p9 := p7) (p10 := p9) (by simp) (by simp) (by have h := Z9.out.nd; simp at h; omega) V19.out V39.out _ rfl
          refine hK.out _ _ k2.s12 (fun hHeld => ?_)
          clear hK K y0 g0 y1 g1 y2 g2 y3 g3 y4 g4 y5 g5
          try simp only [Act.put, List.setIfInBounds_toArray, List.set_cons_zero, List.set_cons_succ]
          have FIN := Lib.hid fin
          clear fin
          have y0 := (b2.cell 0).trans (show _ = some (Value.string ⟨#[]⟩) from rfl)
          have y1 := (b2.cell 1).trans (show _ = some (Value.int .i64 0) from rfl)
          have y2 := (b2.cell 2).trans (show _ = some (Value.int .i64 0) from rfl)
          have y3 := (b2.cell 3).trans (show _ = some (Value.slice none 0 0) from rfl)
          have y4 := (b2.cell 4).trans (show _ = some (Value.slice none 0 0) from rfl)
          have y5 := (b2.cell 5).trans (show _ = some (Value.slice none 0 0) from rfl)
          have g0 := b2.frozen 0
          have g1 := b2.frozen 1
          have g2 := b2.frozen 2
          have g3 := b2.frozen 3
          have g4 := b2.frozen 4
          have g5 := b2.frozen 5
          clear b2 k2
          generalize (((((x9.setCell ⟨p7, 0, none⟩ (.string (visS s boardB).resp)).setCell ⟨p7, 1, none⟩ (.int .i64 (visS s boardB).dep)).setCell ⟨p7, 2, none⟩ (.int .i64 (visS s boardB).day)).setCell ⟨p7, 3, none⟩ (.slice Av1 nv1 cv1)).setCell ⟨p7, 4, none⟩ (.slice none 0 0)).setCell ⟨p7, 5, none⟩ (.slice none 0 0) = wz at FIN hHeld y0 g0 y1 g1 y2 g2 y3 g3 y4 g4 y5 g5 ⊢
          refine wpAnyH_done (by kernel_rfl) ?_ _
          refine lastQ_step (by rfl) (by rfl) ?_
          go_simp
          (try go_wp2_with fail)
          go_meet
          exact ⟨p7, p9, _, _, _, _, _, _, rfl, rfl, FIN.out _ rfl⟩
        · go_simp
          have KK10 := Lib.hid (KK7.out.alloc (.cells #[.string ⟨#[]⟩, .int .i64 0, .int .i64 0, .slice none 0 0, .slice none 0 0, .slice none 0 0] 33))
          have Z10 : Hid (ZK (x7.alloc (.cells #[.string ⟨#[]⟩, .int .i64 0, .int .i64 0, .slice none 0 0, .slice none 0 0, .slice none 0 0] 33)) m8 (x7.heap.size :: (p7 :: []))) := Lib.hid (Z7.out.alloc KK7.out.new.2.2.2)
          have V110 := Lib.hid (V17.out.alloc (.cells #[.string ⟨#[]⟩, .int .i64 0, .int .i64 0, .slice none 0 0, .slice none 0 0, .slice none 0 0] 33))
          refine hK.out _ _ KK10.out.s12 (fun hHeld => ?_)
          clear hK K
          try simp only [Act.put, List.setIfInBounds_toArray, List.set_cons_zero, List.set_cons_succ]
          obtain ⟨x10, hx10⟩ : ∃ x, (x7.alloc (.cells #[.string ⟨#[]⟩, .int .i64 0, .int .i64 0, .slice none 0 0, .slice none 0 0, .slice none 0 0] 33)) = x := ⟨_, rfl⟩
          rw [hx10] at KK10 Z10 V110 hHeld ⊢
          clear hx10
          obtain ⟨p10, hp10⟩ : ∃ p, x7.heap.size = p := ⟨_, rfl⟩
          rw [hp10] at Z10 V110 ⊢
          clear hp10
          refine wpAnyH_ready (rs := [3]) (by kernel_rfl) (by simp) ?_
          refine AllReadyH.cons rfl (fun K hK => ?_) AllReadyH.nil
          go_simp
          refine (v_Visible (moreS s f) boardB _ _ _ x10 KK10.out.full7 HOT.out).mono ?_
          rintro e x11 ⟨Av11, nv11, cv11, rfl, hat, hbl⟩
          have KK11 := Lib.hid (KK10.out.step hbl)
          have Z11 := Lib.hid (Z10.out.step hbl)
          have V111 := Lib.hid (V110.out.step hbl)
          have V311 := Lib.hid (VsK.new hat Z10.out)
          clear hat hbl
          refine hK.out _ _ KK11.out.s12 (fun hHeld => ?_)
          clear hK K
          try simp only [Act.put, List.setIfInBounds_toArray, List.set_cons_zero, List.set_cons_succ]
          have hz9 := (Z11.out.blk p7 (by simp)).2.2
          have y0 := (hz9.cell 0).trans (show _ = some (Value.string ⟨#[]⟩) from rfl)
          have y1 := (hz9.cell 1).trans (show _ = some (Value.int .i64 0) from rfl)
          have y2 := (hz9.cell 2).trans (show _ = some (Value.int .i64 0) from rfl)
          have y3 := (hz9.cell 3).trans (show _ = some (Value.slice none 0 0) from rfl)
          have y4 := (hz9.cell 4).trans (show _ = some (Value.slice none 0 0) from rfl)
          have y5 := (hz9.cell 5).trans (show _ = some (Value.slice none 0 0) from rfl)
          have g0 := hz9.frozen 0
          have g1 := hz9.frozen 1
          have g2 := hz9.frozen 2
          have g3 := hz9.frozen 3
          have g4 := hz9.frozen 4
          have g5 := hz9.frozen 5
          clear hz9
          refine wpAnyH_ready (rs := [6]) (by kernel_rfl) (by simp) ?_
          refine AllReadyH.cons rfl (fun K hK => ?_) AllReadyH.nil
          go_simp
          obtain ⟨k2, b2, fin⟩ := r8_end KK11.out Z11.out (p9 := p7) (p10 := p10) (by simp) (by simp) (by have h := Z11.out.nd; simp at h; omega) V111.out V311.out _ rfl
          refine hK.out _ _ k2.s12 (fun hHeld => ?_)
          clear hK K y0 g0 y1 g1 y2 g2 y3 g3 y4 g4 y5 g5
          try simp only [Act.put, List.setIfInBounds_toArray, List.set_cons_zero, List.set_cons_succ]
          have FIN := Lib.hid fin
          clear fin
          have y0 := (b2.cell 0).trans (show _ = some (Value.string ⟨#[]⟩) from rfl)
          have y1 := (b2.cell 1).trans (show _ = some (Value.int .i64 0) from rfl)
          have y2 := (b2.cell 2).trans (show _ = some (Value.int .i64 0) from rfl)
          have y3 := (b2.cell 3).trans (show _ = some (Value.slice none 0 0) from rfl)
          have y4 := (b2.cell 4).trans (show _ = some (Value.slice none 0 0) from rfl)
          have y5 := (b2.cell 5).trans (show _ = some (Value.slice none 0 0) from rfl)
          have g0 := b2.frozen 0
          have g1 := b2.frozen 1
          have g2 := b2.frozen 2
          have g3 := b2.frozen 3
          have g4 := b2.frozen 4
          have g5 := b2.frozen 5
          clear b2 k2
          generalize (((((x11.setCell ⟨p7, 0, none⟩ (.string (visS s boardB).resp)).setCell ⟨p7, 1, none⟩ (.int .i64 (visS s boardB).dep)).setCell ⟨p7, 2, none⟩ (.int .i64 (visS s boardB).day)).setCell ⟨p7, 3, none⟩ (.slice Av1 nv1 cv1)).setCell ⟨p7, 4, none⟩ (.slice none 0 0)).setCell ⟨p7, 5, none⟩ (.slice none 0 0) = wz at FIN hHeld y0 g0 y1 g1 y2 g2 y3 g3 y4 g4 y5 g5 ⊢
          refine wpAnyH_done (by kernel_rfl) ?_ _
          refine lastQ_step (by rfl) (by rfl) ?_
          go_simp
          (try go_wp2_with fail)
          go_meet
          exact ⟨p7, p10, _, _, _, _, _, _, rfl, rfl, FIN.out _ rfl⟩
      · go_simp
        have KK12 := Lib.hid (KK1.out.alloc (.cells #[.string ⟨#[]⟩, .int .i64 0, .int .i64 0, .slice none 0 0, .slice none 0 0, .slice none 0 0] 33))
        have Z12 : Hid (ZK (x1.alloc (.cells #[.string ⟨#[]⟩, .int .i64 0, .int .i64 0, .slice none 0 0, .slice none 0 0, .slice none 0 0] 33)) m8 (x1.heap.size :: [])) := Lib.hid (Z1.out.alloc KK1.out.new.2.2.2)
        have V112 := Lib.hid (V11.out.alloc (.cells #[.string ⟨#[]⟩, .int .i64 0, .int .i64 0, .slice none 0 0, .slice none 0 0, .slice none 0 0] 33))
        refine hK.out _ _ KK12.out.s12 (fun hHeld => ?_)
        clear hK K
        try simp only [Act.put, List.setIfInBounds_toArray, List.set_cons_zero, List.set_cons_succ]
        obtain ⟨x12, hx12⟩ : ∃ x, (x1.alloc (.cells #[.string ⟨#[]⟩, .int .i64 0, .int .i64 0, .slice none 0 0, .slice none 0 0, .slice none 0 0] 33)) = x := ⟨_, rfl⟩
        rw [hx12] at KK12 Z12 V112 hHeld ⊢
        clear hx12
        obtain ⟨p12, hp12⟩ : ∃ p, x1.heap.size = p := ⟨_, rfl⟩
        rw [hp12] at Z12 V112 ⊢
        clear hp12
        refine wpAnyH_ready (rs := [3, 4]) (by kernel_rfl) (by simp) ?_
        refine AllReadyH.cons rfl (fun K hK => ?_) (AllReadyH.cons rfl (fun K hK => ?_) AllReadyH.nil)
        · go_simp
          refine (v_Visible (moreS s f) boardB _ _ _ x12 KK12.out.full7 HOT.out).mono ?_
          rintro e x13 ⟨Av13, nv13, cv13, rfl, hat, hbl⟩
          have KK13 := Lib.hid (KK12.out.step hbl)
          have Z13 := Lib.hid (Z12.out.step hbl)
          have V113 := Lib.hid (V112.out.step hbl)
          have V313 := Lib.hid (VsK.new hat Z12.out)
          clear hat hbl
          refine hK.out _ _ KK13.out.s12 (fun hHeld => ?_)
          clear hK K
          try simp only [Act.put, List.setIfInBounds_toArray, List.set_cons_zero, List.set_cons_succ]
          refine wpAnyH_ready (rs := [4]) (by kernel_rfl) (by simp) ?_
          refine AllReadyH.cons rfl (fun K hK => ?_) AllReadyH.nil
          go_simp
          have KK14 := Lib.hid (KK13.out.alloc (.cells #[.string ⟨#[]⟩, .int .i64 0, .int .i64 0, .slice none 0 0, .slice none 0 0, .slice none 0 0] 33))
          have Z14 : Hid (ZK (x13.alloc (.cells #[.string ⟨#[]⟩, .int .i64 0, .int .i64 0, .slice none 0 0, .slice none 0 0, .slice none 0 0] 33)) m8 (x13.heap.size :: (p12 :: []))) := Lib.hid (Z13.out.alloc KK13.out.new.2.2.2)
          have V114 := Lib.hid (V113.out.alloc (.cells #[.string ⟨#[]⟩, .int .i64 0, .int .i64 0, .slice none 0 0, .slice none 0 0, .slice none 0 0] 33))
          have V314 := Lib.hid (V313.out.alloc (.cells #[.string ⟨#[]⟩, .int .i64 0, .int .i64 0, .slice none 0 0, .slice none 0 0, .slice none 0 0] 33))
          refine hK.out _ _ KK14.out.s12 (fun hHeld => ?_)
          clear hK K
          try simp only [Act.put, List.setIfInBounds_toArray, List.set_cons_zero, List.set_cons_succ]
          obtain ⟨x14, hx14⟩ : ∃ x, (x13.alloc (.cells #[.string ⟨#[]⟩, .int .i64 0, .int .i64 0, .slice none 0 0, .slice none 0 0, .slice none 0 0] 33)) = x := ⟨_, rfl⟩
          rw [hx14] at KK14 Z14 V114 V314 hHeld ⊢
          clear hx14
          obtain ⟨p14, hp14⟩ : ∃ p, x13.heap.size = p := ⟨_, rfl⟩
          rw [hp14] at Z14 V114 V314 ⊢
          clear hp14
          have hz9 := (Z14.out.blk p14 (by simp)).2.2
          have y0 := (hz9.cell 0).trans (show _ = some (Value.string ⟨#[]⟩) from rfl)
          have y1 := (hz9.cell 1).trans (show _ = some (Value.int .i64 0) from rfl)
          have y2 := (hz9.cell 2).trans (show _ = some (Value.int .i64 0) from rfl)
          have y3 := (hz9.cell 3).trans (show _ = some (Value.slice none 0 0) from rfl)
          have y4 := (hz9.cell 4).trans (show _ = some (Value.slice none 0 0) from rfl)
          have y5 := (hz9.cell 5).trans (show _ = some (Value.slice none 0 0) from rfl)
          have g0 := hz9.frozen 0
          have g1 := hz9.frozen 1
          have g2 := hz9.frozen 2
          have g3 := hz9.frozen 3
          have g4 := hz9.frozen 4
          have g5 := hz9.frozen 5
          clear hz9
          refine wpAnyH_ready (rs := [6]) (by kernel_rfl) (by simp) ?_
          refine AllReadyH.cons rfl (fun K hK => ?_) AllReadyH.nil
          go_simp
          obtain ⟨k2, b2, fin⟩ := r8_end KK14.out Z14.out (p9 := p14) (p10 := p12) (by simp) (by simp) (by have h := Z14.out.nd; simp at h; omega) V114.out V314.out _ rfl
          refine hK.out _ _ k2.s12 (fun hHeld => ?_)
          clear hK K y0 g0 y1 g1 y2 g2 y3 g3 y4 g4 y5 g5
          try simp only [Act.put, List.setIfInBounds_toArray, List.set_cons_zero, List.set_cons_succ]
          have FIN := Lib.hid fin
          clear fin
          have y0 := (b2.cell 0).trans (show _ = some (Value.string ⟨#[]⟩) from rfl)
          have y1 := (b2.cell 1).trans (show _ = some (Value.int .i64 0) from rfl)
          have y2 := (b2.cell 2).trans (show _ = some (Value.int .i64 0) from rfl)
          have y3 := (b2.cell 3).trans (show _ = some (Value.slice none 0 0) from rfl)
          have y4 := (b2.cell 4).trans (show _ = some (Value.slice none 0 0) from rfl)
          have y5 := (b2.cell 5).trans (show _ = some (Value.slice none 0 0) from rfl)
          have g0 := b2.frozen 0
          have g1 := b2.frozen 1
          have g2 := b2.frozen 2
          have g3 := b2.frozen 3
          have g4 := b2.frozen 4
          have g5 := b2.frozen 5
          clear b2 k2
          generalize (((((x14.setCell ⟨p14, 0, none⟩ (.string (visS s boardB).resp)).setCell ⟨p14, 1, none⟩ (.int .i64 (visS s boardB).dep)).setCell ⟨p14, 2, none⟩ (.int .i64 (visS s boardB).day)).setCell ⟨p14, 3, none⟩ (.slice Av1 nv1 cv1)).setCell ⟨p14, 4, none⟩ (.slice none 0 0)).setCell ⟨p14, 5, none⟩ (.slice none 0 0) = wz at FIN hHeld y0 g0 y1 g1 y2 g2 y3 g3 y4 g4 y5 g5 ⊢
          refine wpAnyH_done (by kernel_rfl) ?_ _
          refine lastQ_step (by rfl) (by rfl) ?_
          go_simp
          (try go_wp2_with fail)
          go_meet
          exact ⟨p14, p12, _, _, _, _, _, _, rfl, rfl, FIN.out _ rfl⟩
        · go_simp
          have KK15 := Lib.hid (KK12.out.alloc (.cells #[.string ⟨#[]⟩, .int .i64 0, .int .i64 0, .slice none 0 0, .slice none 0 0, .slice none 0 0] 33))
          have Z15 : Hid (ZK (x12.alloc (.cells #[.string ⟨#[]⟩, .int .i64 0, .int .i64 0, .slice none 0 0, .slice none 0 0, .slice none 0 0] 33)) m8 (x12.heap.size :: (p12 :: []))) := Lib.hid (Z12.out.alloc KK12.out.new.2.2.2)
          have V115 := Lib.hid (V112.out.alloc (.cells #[.string ⟨#[]⟩, .int .i64 0, .int .i64 0, .slice none 0 0, .slice none 0 0, .slice none 0 0] 33))
          refine hK.out _ _ KK15.out.s12 (fun hHeld => ?_)
          clear hK K
          try simp only [Act.put, List.setIfInBounds_toArray, List.set_cons_zero, List.set_cons_succ]
          obtain ⟨x15, hx15⟩ : ∃ x, (x12.alloc (.cells #[.string ⟨#[]⟩, .int .i64 0, .int .i64 0, .slice none 0 0, .slice none 0 0, .slice none 0 0] 33)) = x := ⟨_, rfl⟩
          rw [hx15] at KK15 Z15 V115 hHeld ⊢
          clear hx15
          obtain ⟨p15, hp15⟩ : ∃ p, x12.heap.size = p := ⟨_, rfl⟩
          rw [hp15] at Z15 V115 ⊢
          clear hp15
          refine wpAnyH_ready (rs := [3]) (by kernel_rfl) (by simp) ?_
          refine AllReadyH.cons rfl (fun K hK => ?_) AllReadyH.nil
          go_simp
          refine (v_Visible (moreS s f) boardB _ _ _ x15 KK15.out.full7 HOT.out).mono ?_
          rintro e x16 ⟨Av16, nv16, cv16, rfl, hat, hbl⟩
          have KK16 := Lib.hid (KK15.out.step hbl)
          have Z16 := Lib.hid (Z15.out.step hbl)
          have V116 := Lib.hid (V115.out.step hbl)
          have V316 := Lib.hid (VsK.new hat Z15.out)
          clear hat hbl
          refine hK.out _ _ KK16.out.s12 (fun hHeld => ?_)
          clear hK K
          try simp only [Act.put, List.setIfInBounds_toArray, List.set_cons_zero, List.set_cons_succ]
          have hz9 := (Z16.out.blk p15 (by simp)).2.2
          have y0 := (hz9.cell 0).trans (show _ = some (Value.string ⟨#[]⟩) from rfl)
          have y1 := (hz9.cell 1).trans (show _ = some (Value.int .i64 0) from rfl)
          have y2 := (hz9.cell 2).trans (show _ = some (Value.int .i64 0) from rfl)
          have y3 := (hz9.cell 3).trans (show _ = some (Value.slice none 0 0) from rfl)
          have y4 := (hz9.cell 4).trans (show _ = some (Value.slice none 0 0) from rfl)
          have y5 := (hz9.cell 5).trans (show _ = some (Value.slice none 0 0) from rfl)
          have g0 := hz9.frozen 0
          have g1 := hz9.frozen 1
          have g2 := hz9.frozen 2
          have g3 := hz9.frozen 3
          have g4 := hz9.frozen 4
          have g5 := hz9.frozen 5
          clear hz9
          refine wpAnyH_ready (rs := [6]) (by kernel_rfl) (by simp) ?_
          refine AllReadyH.cons rfl (fun K hK => ?_) AllReadyH.nil
          go_simp
          obtain ⟨k2, b2, fin⟩ := r8_end KK16.out Z16.out (p9 := p15) (p10 := p12) (by simp) (by simp) (by have h := Z16.out.nd; simp at h; omega) V116.out V316.out _ rfl
          refine hK.out _ _ k2.s12 (fun hHeld => ?_)
          clear hK K y0 g0 y1 g1 y2 g2 y3 g3 y4 g4 y5 g5
          try simp only [Act.put, List.setIfInBounds_toArray, List.set_cons_zero, List.set_cons_succ]
          have FIN := Lib.hid fin
          clear fin
          have y0 := (b2.cell 0).trans (show _ = some (Value.string ⟨#[]⟩) from rfl)
          have y1 := (b2.cell 1).trans (show _ = some (Value.int .i64 0) from rfl)
          have y2 := (b2.cell 2).trans (show _ = some (Value.int .i64 0) from rfl)
          have y3 := (b2.cell 3).trans (show _ = some (Value.slice none 0 0) from rfl)
          have y4 := (b2.cell 4).trans (show _ = some (Value.slice none 0 0) from rfl)
          have y5 := (b2.cell 5).trans (show _ = some (Value.slice none 0 0) from rfl)
          have g0 := b2.frozen 0
          have g1 := b2.frozen 1
          have g2 := b2.frozen 2
          have g3 := b2.frozen 3
          have g4 := b2.frozen 4
          have g5 := b2.frozen 5
          clear b2 k2
          generalize (((((x16.setCell ⟨p15, 0, none⟩ (.string (visS s boardB).resp)).setCell ⟨p15, 1, none⟩ (.int .i64 (visS s boardB).dep)).setCell ⟨p15, 2, none⟩ (.int .i64 (visS s boardB).day)).setCell ⟨p15, 3, none⟩ (.slice Av1 nv1 cv1)).setCell ⟨p15, 4, none⟩ (.slice none 0 0)).setCell ⟨p15, 5, none⟩ (.slice none 0 0) = wz at FIN hHeld y0 g0 y1 g1 y2 g2 y3 g3 y4 g4 y5 g5 ⊢
          refine wpAnyH_done (by kernel_rfl) ?_ _
          refine lastQ_step (by rfl) (by rfl) ?_
          go_simp
          (try go_wp2_with fail)
          go_meet
          exact ⟨p15, p12, _, _, _, _, _, _, rfl, rfl, FIN.out _ rfl⟩
    · go_simp
      have KK17 := Lib.hid (KK0.out.alloc (.cells #[.string ⟨#[]⟩, .int .i64 0, .int .i64 0, .slice none 0 0, .slice none 0 0, .slice none 0 0] 33))
      have Z17 : Hid (ZK (x0.alloc (.cells #[.string ⟨#[]⟩, .int .i64 0, .int .i64 0, .slice none 0 0, .slice none 0 0, .slice none 0 0] 33)) m8 (x0.heap.size :: [])) := Lib.hid (Z0.out.alloc KK0.out.new.2.2.2)
      refine hK.out _ _ KK17.out.s12 (fun hHeld => ?_)
      clear hK K
      try simp only [Act.put, List.setIfInBounds_toArray, List.set_cons_zero, List.set_cons_succ]
      obtain ⟨x17, hx17⟩ : ∃ x, (x0.alloc (.cells #[.string ⟨#[]⟩, .int .i64 0, .int .i64 0, .slice none 0 0, .slice none 0 0, .slice none 0 0] 33)) = x := ⟨_, rfl⟩
      rw [hx17] at KK17 Z17 hHeld ⊢
      clear hx17
      obtain ⟨p17, hp17⟩ : ∃ p, x0.heap.size = p := ⟨_, rfl⟩
      rw [hp17] at Z17 ⊢
      clear hp17
      refine wpAnyH_ready (rs := [1, 5]) (by kernel_rfl) (by simp) ?_
      refine AllReadyH.cons rfl (fun K hK => ?_) (AllReadyH.cons rfl (fun K hK => ?_) AllReadyH.nil)
      · go_simp
        refine (v_Visible s boardB _ _ _ x17 KK17.out.full HM.out.2).mono ?_
        rintro e x18 ⟨Av18, nv18, cv18, rfl, hat, hbl⟩
        have KK18 := Lib.hid (KK17.out.step hbl)
        have Z18 := Lib.hid (Z17.out.step hbl)
        have V118 := Lib.hid (VsK.new hat Z17.out)
        clear hat hbl
        refine hK.out _ _ KK18.out.s12 (fun hHeld => ?_)
        clear hK K
        try simp only [Act.put, List.setIfInBounds_toArray, List.set_cons_zero, List.set_cons_succ]
        refine wpAnyH_ready (rs := [3, 5]) (by kernel_rfl) (by simp) ?_
        refine AllReadyH.cons rfl (fun K hK => ?_) (AllReadyH.cons rfl (fun K hK => ?_) AllReadyH.nil)
        · go_simp
          refine (v_Visible (moreS s f) boardB _ _ _ x18 KK18.out.full7 HOT.out).mono ?_
          rintro e x19 ⟨Av19, nv19, cv19, rfl, hat, hbl⟩
          have KK19 := Lib.hid (KK18.out.step hbl)
          have Z19 := Lib.hid (Z18.out.step hbl)
          have V119 := Lib.hid (V118.out.step hbl)
          have V319 := Lib.hid (VsK.new hat Z18.out)
          clear hat hbl
          refine hK.out _ _ KK19.out.s12 (fun hHeld => ?_)
          clear hK K
          try simp only [Act.put, List.setIfInBounds_toArray, List.set_cons_zero, List.set_cons_succ]
          refine wpAnyH_ready (rs := [5]) (by kernel_rfl) (by simp) ?_
          refine AllReadyH.cons rfl (fun K hK => ?_) AllReadyH.nil
          go_simp
          have KK20 := Lib.hid (KK19.out.alloc (.cells #[.string ⟨#[]⟩, .int .i64 0, .int .i64 0, .slice none 0 0, .slice none 0 0, .slice none 0 0] 33))
          have Z20 : Hid (ZK (x19.alloc (.cells #[.string ⟨#[]⟩, .int .i64 0, .int .i64 0, .slice none 0 0, .slice none 0 0, .slice none 0 0] 33)) m8 (x19.heap.size :: (p17 :: []))) := Lib.hid (Z19.out.alloc KK19.out.new.2.2.2)
          have V120 := Lib.hid (V119.out.alloc (.cells #[.string ⟨#[]⟩, .int .i64 0, .int .i64 0, .slice none 0 0, .slice none 0 0, .slice none 0 0] 33))
          have V320 := Lib.hid (V319.out.alloc (.cells #[.string ⟨#[]⟩, .int .i64 0, .int .i64 0, .slice none 0 0, .slice none 0 0, .slice none 0 0] 33))
          refine hK.out _ _ KK20.out.s12 (fun hHeld => ?_)
          clear hK K
          try simp only [Act.put, List.setIfInBounds_toArray, List.set_cons_zero, List.set_cons_succ]
          obtain ⟨x20, hx20⟩ : ∃ x, (x19.alloc (.cells #[.string ⟨#[]⟩, .int .i64 0, .int .i64 0, .slice none 0 0, .slice none 0 0, .slice none 0 0] 33)) = x := ⟨_, rfl⟩
          rw [hx20] at KK20 Z20 V120 V320 hHeld ⊢
          clear hx20
          obtain ⟨p20, hp20⟩ : ∃ p, x19.heap.size = p := ⟨_, rfl⟩
          rw [hp20] at Z20 V120 V320 ⊢
          clear hp20
          have hz9 := (Z20.out.blk p17 (by simp)).2.2
          have y0 := (hz9.cell 0).trans (show _ = some (Value.string ⟨#[]⟩) from rfl)
          have y1 := (hz9.cell 1).trans (show _ = some (Value.int .i64 0) from rfl)
          have y2 := (hz9.cell 2).trans (show _ = some (Value.int .i64 0) from rfl)
          have y3 := (hz9.cell 3).trans (show _ = some (Value.slice none 0 0) from rfl)
          have y4 := (hz9.cell 4).trans (show _ = some (Value.slice none 0 0) from rfl)
          have y5 := (hz9.cell 5).trans (show _ = some (Value.slice none 0 0) from rfl)
          have g0 := hz9.frozen 0
          have g1 := hz9.frozen 1
          have g2 := hz9.frozen 2
          have g3 := hz9.frozen 3
          have g4 := hz9.frozen 4
          have g5 := hz9.frozen 5
          clear hz9
          refine wpAnyH_ready (rs := [6]) (by kernel_rfl) (by simp) ?_
          refine AllReadyH.cons rfl (fun K hK => ?_) AllReadyH.nil
          go_simp
          obtain ⟨k2, b2, fin⟩ := r8_end KK20.out Z20.out (p9 := p17) (p10 := p20) (by simp) (by simp) (by have h := Z20.out.nd; simp at h; omega) V120.out V320.out _ rfl
          refine hK.out _ _ k2.s12 (fun hHeld => ?_)
          clear hK K y0 g0 y1 g1 y2 g2 y3 g3 y4 g4 y5 g5
          try simp only [Act.put, List.setIfInBounds_toArray, List.set_cons_zero, List.set_cons_succ]
          have FIN := Lib.hid fin
          clear fin
          have y0 := (b2.cell 0).trans (show _ = some (Value.string ⟨#[]⟩) from rfl)
          have y1 := (b2.cell 1).trans (show _ = some (Value.int .i64 0) from rfl)
          have y2 := (b2.cell 2).trans (show _ = some (Value.int .i64 0) from rfl)
          have y3 := (b2.cell 3).trans (show _ = some (Value.slice none 0 0) from rfl)
          have y4 := (b2.cell 4).trans (show _ = some (Value.slice none 0 0) from rfl)
          have y5 := (b2.cell 5).trans (show _ = some (Value.slice none 0 0) from rfl)
          have g0 := b2.frozen 0
          have g1 := b2.frozen 1
          have g2 := b2.frozen 2
          have g3 := b2.frozen 3
          have g4 := b2.frozen 4
          have g5 := b2.frozen 5
          clear b2 k2
          generalize (((((x20.setCell ⟨p17, 0, none⟩ (.string (visS s boardB).resp)).setCell ⟨p17, 1, none⟩ (.int .i64 (visS s boardB).dep)).setCell ⟨p17, 2, none⟩ (.int .i64 (visS s boardB).day)).setCell ⟨p17, 3, none⟩ (.slice Av18 nv18 cv18)).setCell ⟨p17, 4, none⟩ (.slice none 0 0)).setCell ⟨p17, 5, none⟩ (.slice none 0 0) = wz at FIN hHeld y0 g0 y1 g1 y2 g2 y3 g3 y4 g4 y5 g5 ⊢
          refine wpAnyH_done (by kernel_rfl) ?_ _
          refine lastQ_step (by rfl) (by rfl) ?_
          go_simp
          (try go_wp2_with fail)
          go_meet
          exact ⟨p17, p20, _, _, _, _, _, _, rfl, rfl, FIN.out _ rfl⟩
        · go_simp
          have KK21 := Lib.hid (KK18.out.alloc (.cells #[.string ⟨#[]⟩, .int .i64 0, .int .i64 0, .slice none 0 0, .slice none 0 0, .slice none 0 0] 33))
          have Z21 : Hid (ZK (x18.alloc (.cells #[.string ⟨#[]⟩, .int .i64 0, .int .i64 0, .slice none 0 0, .slice none 0 0, .slice none 0 0] 33)) m8 (x18.heap.size :: (p17 :: []))) := Lib.hid (Z18.out.alloc KK18.out.new.2.2.2)
          have V121 := Lib.hid (V118.out.alloc (.cells #[.string ⟨#[]⟩, .int .i64 0, .int .i64 0, .slice none 0 0, .slice none 0 0, .slice none 0 0] 33))
          refine hK.out _ _ KK21.out.s12 (fun hHeld => ?_)
          clear hK K
          try simp only [Act.put, List.setIfInBounds_toArray, List.set_cons_zero, List.set_cons_succ]
          obtain ⟨x21, hx21⟩ : ∃ x, (x18.alloc (.cells #[.string ⟨#[]⟩, .int .i64 0, .int .i64 0, .slice none 0 0, .slice none 0 0, .slice none 0 0] 33)) = x := ⟨_, rfl⟩
          rw [hx21] at KK21 Z21 V121 hHeld ⊢
          clear hx21
          obtain ⟨p21, hp21⟩ : ∃ p, x18.heap.size = p := ⟨_, rfl⟩
          rw [hp21] at Z21 V121 ⊢
          clear hp21
          refine wpAnyH_ready (rs := [3]) (by kernel_rfl) (by simp) ?_
          refine AllReadyH.cons rfl (fun K hK => ?_) AllReadyH.nil
          go_simp
          refine (v_Visible (moreS s f) boardB _ _ _ x21 KK21.out.full7 HOT.out).mono ?_
          rintro e x22 ⟨Av22, nv22, cv22, rfl, hat, hbl⟩
          have KK22 := Lib.hid (KK21.out.step hbl)
          have Z22 := Lib.hid (Z21.out.step hbl)
          have V122 := Lib.hid (V121.out.step hbl)
          have V322 := Lib.hid (VsK.new hat Z21.out)
          clear hat hbl
          refine hK.out _ _ KK22.out.s12 (fun hHeld => ?_)
          clear hK K
          try simp only [Act.put, List.setIfInBounds_toArray, List.set_cons_zero, List.set_cons_succ]
          have hz9 := (Z22.out.blk p17 (by simp)).2.2
          have y0 := (hz9.cell 0).trans (show _ = some (Value.string ⟨#[]⟩) from rfl)
          have y1 := (hz9.cell 1).trans (show _ = some (Value.int .i64 0) from rfl)
          have y2 := (hz9.cell 2).trans (show _ = some (Value.int .i64 0) from rfl)
          have y3 := (hz9.cell 3).trans (show _ = some (Value.slice none 0 0) from rfl)
          have y4 := (hz9.cell 4).trans (show _ = some (Value.slice none 0 0) from rfl)
          have y5 := (hz9.cell 5).trans (show _ = some (Value.slice none 0 0) from rfl)
          have g0 := hz9.frozen 0
          have g1 := hz9.frozen 1
          have g2 := hz9.frozen 2
          have g3 := hz9.frozen 3
          have g4 := hz9.frozen 4
          have g5 := hz9.frozen 5
          clear hz9
          refine wpAnyH_ready (rs := [6]) (by kernel_rfl) (by simp) ?_
          refine AllReadyH.cons rfl (fun K hK => ?_) AllReadyH.nil
          go_simp
          obtain ⟨k2, b2, fin⟩ := r8_end KK22.out Z22.out (p9 := p17) (p10 := p21) (by simp) (by simp) (by have h := Z22.out.nd; simp at h; omega) V122.out V322.out _ rfl
          refine hK.out _ _ k2.s12 (fun hHeld => ?_)
          clear hK K y0 g0 y1 g1 y2 g2 y3 g3 y4 g4 y5 g5
          try simp only [Act.put, List.setIfInBounds_toArray, List.set_cons_zero, List.set_cons_succ]
          have FIN := Lib.hid fin
          clear fin
          have y0 := (b2.cell 0).trans (show _ = some (Value.string ⟨#[]⟩) from rfl)
          have y1 := (b2.cell 1).trans (show _ = some (Value.int .i64 0) from rfl)
          have y2 := (b2.cell 2).trans (show _ = some (Value.int .i64 0) from rfl)
          have y3 := (b2.cell 3).trans (show _ = some (Value.slice none 0 0) from rfl)
          have y4 := (b2.cell 4).trans (show _ = some (Value.slice none 0 0) from rfl)
          have y5 := (b2.cell 5).trans (show _ = some (Value.slice none 0 0) from rfl)
          have g0 := b2.frozen 0
          have g1 := b2.frozen 1
          have g2 := b2.frozen 2
          have g3 := b2.frozen 3
          have g4 := b2.frozen 4
          have g5 := b2.frozen 5
          clear b2 k2
          generalize (((((x22.setCell ⟨p17, 0, none⟩ (.string (visS s boardB).resp)).setCell ⟨p17, 1, none⟩ (.int .i64 (visS s boardB).dep)).setCell ⟨p17, 2, none⟩ (.int .i64 (visS s boardB).day)).setCell ⟨p17, 3, none⟩ (.slice Av18 nv18 cv18)).setCell ⟨p17, 4, none⟩ (.slice none 0 0)).setCell ⟨p17, 5, none⟩ (.slice none 0 0) = wz at FIN hHeld y0 g0 y1 g1 y2 g2 y3 g3 y4 g4 y5 g5 ⊢
          refine wpAnyH_done (by kernel_rfl) ?_ _
          refine lastQ_step (by rfl) (by rfl) ?_
          go_simp
          (try go_wp2_with fail)
          go_meet
          exact ⟨p17, p21, _, _, _, _, _, _, rfl, rfl, FIN.out _ rfl⟩
      · go_simp
        have KK23 := Lib.hid (KK17.out.alloc (.cells #[.string ⟨#[]⟩, .int .i64 0, .int .i64 0, .slice none 0 0, .slice none 0 0, .slice none 0 0] 33))
        have Z23 : Hid (ZK (x17.alloc (.cells #[.string ⟨#[]⟩, .int .i64 0, .int .i64 0, .slice none 0 0, .slice none 0 0, .slice none 0 0] 33)) m8 (x17.heap.size :: (p17 :: []))) := Lib.hid (Z17.out.alloc KK17.out.new.2.2.2)
        refine hK.out _ _ KK23.out.s12 (fun hHeld => ?_)
        clear hK K
        try simp only [Act.put, List.setIfInBounds_toArray, List.set_cons_zero, List.set_cons_succ]
        obtain ⟨x23, hx23⟩ : ∃ x, (x17.alloc (.cells #[.string ⟨#[]⟩, .int .i64 0, .int .i64 0, .slice none 0 0, .slice none 0 0, .slice none 0 0] 33)) = x := ⟨_, rfl⟩
        rw [hx23] at KK23 Z23 hHeld ⊢
        clear hx23
        obtain ⟨p23, hp23⟩ : ∃ p, x17.heap.size = p := ⟨_, rfl⟩
        rw [hp23] at Z23 ⊢
        clear hp23
        refine wpAnyH_ready (rs := [1]) (by kernel_rfl) (by simp) ?_
        refine AllReadyH.cons rfl (fun K hK => ?_) AllReadyH.nil
        go_simp
        refine (v_Visible s boardB _ _ _ x23 KK23.out.full HM.out.2).mono ?_
        rintro e x24 ⟨Av24, nv24, cv24, rfl, hat, hbl⟩
        have KK24 := Lib.hid (KK23.out.step hbl)
        have Z24 := Lib.hid (Z23.out.step hbl)
        have V124 := Lib.hid (VsK.new hat Z23.out)
        clear hat hbl
        refine hK.out _ _ KK24.out.s12 (fun hHeld => ?_)
        clear hK K
        try simp only [Act.put, List.setIfInBounds_toArray, List.set_cons_zero, List.set_cons_succ]
        refine wpAnyH_ready (rs := [3]) (by kernel_rfl) (by simp) ?_
        refine AllReadyH.cons rfl (fun K hK => ?_) AllReadyH.nil
        go_simp
        refine (v_Visible (moreS s f) boardB _ _ _ x24 KK24.out.full7 HOT.out).mono ?_
        rintro e x25 ⟨Av25, nv25, cv25, rfl, hat, hbl⟩
        have KK25 := Lib.hid (KK24.out.step hbl)
        have Z25 := Lib.hid (Z24.out.step hbl)
        have V125 := Lib.hid (V124.out.step hbl)
        have V325 := Lib.hid (VsK.new hat Z24.out)
        clear hat hbl
        refine hK.out _ _ KK25.out.s12 (fun hHeld => ?_)
        clear hK K
        try simp only [Act.put, List.setIfInBounds_toArray, List.set_cons_zero, List.set_cons_succ]
        have hz9 := (Z25.out.blk p17 (by simp)).2.2
        have y0 := (hz9.cell 0).trans (show _ = some (Value.string ⟨#[]⟩) from rfl)
        have y1 := (hz9.cell 1).trans (show _ = some (Value.int .i64 0) from rfl)
        have y2 := (hz9.cell 2).trans (show _ = some (Value.int .i64 0) from rfl)
        have y3 := (hz9.cell 3).trans (show _ = some (Value.slice none 0 0) from rfl)
        have y4 := (hz9.cell 4).trans (show _ = some (Value.slice none 0 0) from rfl)
        have y5 := (hz9.cell 5).trans (show _ = some (Value.slice none 0 0) from rfl)
        have g0 := hz9.frozen 0
        have g1 := hz9.frozen 1
        have g2 := hz9.frozen 2
        have g3 := hz9.frozen 3
        have g4 := hz9.frozen 4
        have g5 := hz9.frozen 5
        clear hz9
        refine wpAnyH_ready (rs := [6]) (by kernel_rfl) (by simp) ?_
        refine AllReadyH.cons rfl (fun K hK => ?_) AllReadyH.nil
        go_simp
        obtain ⟨k2, b2, fin⟩ := r8_end KK25.out Z25.out (p9 := p17) (p10 := p23) (by simp) (by simp) (by have h := Z25.out.nd; simp at h; omega) V125.out V325.out _ rfl
        refine hK.out _ _ k2.s12 (fun hHeld => ?_)
        clear hK K y0 g0 y1 g1 y2 g2 y3 g3 y4 g4 y5 g5
        try simp only [Act.put, List.setIfInBounds_toArray, List.set_cons_zero, List.set_cons_succ]
        have FIN := Lib.hid fin
        clear fin
        have y0 := (b2.cell 0).trans (show _ = some (Value.string ⟨#[]⟩) from rfl)
        have y1 := (b2.cell 1).trans (show _ = some (Value.int .i64 0) from rfl)
        have y2 := (b2.cell 2).trans (show _ = some (Value.int .i64 0) from rfl)
        have y3 := (b2.cell 3).trans (show _ = some (Value.slice none 0 0) from rfl)
        have y4 := (b2.cell 4).trans (show _ = some (Value.slice none 0 0) from rfl)
        have y5 := (b2.cell 5).trans (show _ = some (Value.slice none 0 0) from rfl)
        have g0 := b2.frozen 0
        have g1 := b2.frozen 1
        have g2 := b2.frozen 2
        have g3 := b2.frozen 3
        have g4 := b2.frozen 4
        have g5 := b2.frozen 5
        clear b2 k2
        generalize (((((x25.setCell ⟨p17, 0, none⟩ (.string (visS s boardB).resp)).setCell ⟨p17, 1, none⟩ (.int .i64 (visS s boardB).dep)).setCell ⟨p17, 2, none⟩ (.int .i64 (visS s boardB).day)).setCell ⟨p17, 3, none⟩ (.slice Av24 nv24 cv24)).setCell ⟨p17, 4, none⟩ (.slice none 0 0)).setCell ⟨p17, 5, none⟩ (.slice none 0 0) = wz at FIN hHeld y0 g0 y1 g1 y2 g2 y3 g3 y4 g4 y5 g5 ⊢
        refine wpAnyH_done (by kernel_rfl) ?_ _
        refine lastQ_step (by rfl) (by rfl) ?_
        go_simp
        (try go_wp2_with fail)
        go_meet
        exact ⟨p17, p23, _, _, _, _, _, _, rfl, rfl, FIN.out _ rfl⟩
    · go_simp
      have KK26 := Lib.hid (KK0.out.alloc (.cells #[.string ⟨#[]⟩, .int .i64 0, .int .i64 0, .slice none 0 0, .slice none 0 0, .slice none 0 0] 33))
      have Z26 : Hid (ZK (x0.alloc (.cells #[.string ⟨#[]⟩, .int .i64 0, .int .i64 0, .slice none 0 0, .slice none 0 0, .slice none 0 0] 33)) m8 (x0.heap.size :: [])) := Lib.hid (Z0.out.alloc KK0.out.new.2.2.2)
      refine hK.out _ _ KK26.out.s12 (fun hHeld => ?_)
      clear hK K
      try simp only [Act.put, List.setIfInBounds_toArray, List.set_cons_zero, List.set_cons_succ]
      obtain ⟨x26, hx26⟩ : ∃ x, (x0.alloc (.cells #[.string ⟨#[]⟩, .int .i64 0, .int .i64 0, .slice none 0 0, .slice none 0 0, .slice none 0 0] 33)) = x := ⟨_, rfl⟩
      rw [hx26] at KK26 Z26 hHeld ⊢
      clear hx26
      obtain ⟨p26, hp26⟩ : ∃ p, x0.heap.size = p := ⟨_, rfl⟩
      rw [hp26] at Z26 ⊢
      clear hp26
      refine wpAnyH_ready (rs := [1, 4]) (by kernel_rfl) (by simp) ?_
      refine AllReadyH.cons rfl (fun K hK => ?_) (AllReadyH.cons rfl (fun K hK => ?_) AllReadyH.nil)
      · go_simp
        refine (v_Visible s boardB _ _ _ x26 KK26.out.full HM.out.2).mono ?_
        rintro e x27 ⟨Av27, nv27, cv27, rfl, hat, hbl⟩
        have KK27 := Lib.hid (KK26.out.step hbl)
        have Z27 := Lib.hid (Z26.out.step hbl)
        have V127 := Lib.hid (VsK.new hat Z26.out)
        clear hat hbl
        refine hK.out _ _ KK27.out.s12 (fun hHeld => ?_)
        clear hK K
        try simp only [Act.put, List.setIfInBounds_toArray, List.set_cons_zero, List.set_cons_succ]
        refine wpAnyH_ready (rs := [3, 4]) (by kernel_rfl) (by simp) ?_
        refine AllReadyH.cons rfl (fun K hK => ?_) (AllReadyH.cons rfl (fun K hK => ?_) AllReadyH.nil)
        · go_simp
          refine (v_Visible (moreS s f) boardB _ _ _ x27 KK27.out.full7 HOT.out).mono ?_
          rintro e x28 ⟨Av28, nv28, cv28, rfl, hat, hbl⟩
          have KK28 := Lib.hid (KK27.out.step hbl)
          have Z28 := Lib.hid (Z27.out.step hbl)
          have V128 := Lib.hid (V127.out.step hbl)
          have V328 := Lib.hid (VsK.new hat Z27.out)
          clear hat hbl
          refine hK.out _ _ KK28.out.s12 (fun hHeld => ?_)
          clear hK K
          try simp only [Act.put, List.setIfInBounds_toArray, List.set_cons_zero, List.set_cons_succ]
          refine wpAnyH_ready (rs := [4]) (by kernel_rfl) (by simp) ?_
          refine AllReadyH.cons rfl (fun K hK => ?_) AllReadyH.nil
          go_simp
          have KK29 := Lib.hid (KK28.out.alloc (.cells #[.string ⟨#[]⟩, .int .i64 0, .int .i64 0, .slice none 0 0, .slice none 0 0, .slice none 0 0] 33))
          have Z29 : Hid (ZK (x28.alloc (.cells #[.string ⟨#[]⟩, .int .i64 0, .int .i64 0, .slice none 0 0, .slice none 0 0, .slice none 0 0] 33)) m8 (x28.heap.size :: (p26 :: []))) := Lib.hid (Z28.out.alloc KK28.out.new.2.2.2)
          have V129 := Lib.hid (V128.out.alloc (.cells #[.string ⟨#[]⟩, .int .i64 0, .int .i64 0, .slice none 0 0, .slice none 0 0, .slice none 0 0] 33))
          have V329 := Lib.hid (V328.out.alloc (.cells #[.string ⟨#[]⟩, .int .i64 0, .int .i64 0, .slice none 0 0, .slice none 0 0, .slice none 0 0] 33))
          refine hK.out _ _ KK29.out.s12 (fun hHeld => ?_)
          clear hK K
          try simp only [Act.put, List.setIfInBounds_toArray, List.set_cons_zero, List.set_cons_succ]
          obtain ⟨x29, hx29⟩ : ∃ x, (x28.alloc (.cells #[.string ⟨#[]⟩, .int .i64 0, .int .i64 0, .slice none 0 0, .slice none 0 0, .slice none 0 0] 33)) = x := ⟨_, rfl⟩
          rw [hx29] at KK29 Z29 V129 V329 hHeld ⊢
          clear hx29
          obtain ⟨p29, hp29⟩ : ∃ p, x28.heap.size = p := ⟨_, rfl⟩
          rw [hp29] at Z29 V129 V329 ⊢
          clear hp29
          have hz9 := (Z29.out.blk p29 (by simp)).2.2
          have y0 := (hz9.cell 0).trans (show _ = some (Value.string ⟨#[]⟩) from rfl)
          have y1 := (hz9.cell 1).trans (show _ = some (Value.int .i64 0) from rfl)
          have y2 := (hz9.cell 2).trans (show _ = some (Value.int .i64 0) from rfl)
          have y3 := (hz9.cell 3).trans (show _ = some (Value.slice none 0 0) from rfl)
          have y4 := (hz9.cell 4).trans (show _ = some (Value.slice none 0 0) from rfl)
          have y5 := (hz9.cell 5).trans (show _ = some (Value.slice none 0 0) from rfl)
          have g0 := hz9.frozen 0
          have g1 := hz9.frozen 1
          have g2 := hz9.frozen 2
          have g3 := hz9.frozen 3
          have g4 := hz9.frozen 4
          have g5 := hz9.frozen 5
          clear hz9
          refine wpAnyH_ready (rs := [6]) (by kernel_rfl) (by simp) ?_
          refine AllReadyH.cons rfl (fun K hK => ?_) AllReadyH.nil
          go_simp
          obtain ⟨k2, b2, fin⟩ := r8_end KK29.out Z29.out (p9 := p29) (p10 := p26) (by simp) (by simp) (by have h := Z29.out.nd; simp at h; omega) V129.out V329.out _ rfl
          refine hK.out _ _ k2.s12 (fun hHeld => ?_)
          clear hK K y0 g0 y1 g1 y2 g2 y3 g3 y4 g4 y5 g5
          try simp only [Act.put, List.setIfInBounds_toArray, List.set_cons_zero, List.set_cons_succ]
          have FIN := Lib.hid fin
          clear fin
          have y0 := (b2.cell 0).trans (show _ = some (Value.string ⟨#[]⟩) from rfl)
          have y1 := (b2.cell 1).trans (show _ = some (Value.int .i64 0) from rfl)
          have y2 := (b2.cell 2).trans (show _ = some (Value.int .i64 0) from rfl)
          have y3 := (b2.cell 3).trans (show _ = some (Value.slice none 0 0) from rfl)
          have y4 := (b2.cell 4).trans (show _ = some (Value.slice none 0 0) from rfl)
          have y5 := (b2.cell 5).trans (show _ = some (Value.slice none 0 0) from rfl)
          have g0 := b2.frozen 0
          have g1 := b2.frozen 1
          have g2 := b2.frozen 2
          have g3 := b2.frozen 3
          have g4 := b2.frozen 4
          have g5 := b2.frozen 5
          clear b2 k2
          generalize (((((x29.setCell ⟨p29, 0, none⟩ (.string (visS s boardB).resp)).setCell ⟨p29, 1, none⟩ (.int .i64 (visS s boardB).dep)).setCell ⟨p29, 2, none⟩ (.int .i64 (visS s boardB).day)).setCell ⟨p29, 3, none⟩ (.slice Av27 nv27 cv27)).setCell ⟨p29, 4, none⟩ (.slice none 0 0)).setCell ⟨p29, 5, none⟩ (.slice none 0 0) = wz at FIN hHeld y0 g0 y1 g1 y2 g2 y3 g3 y4 g4 y5 g5 ⊢
          refine wpAnyH_done (by kernel_rfl) ?_ _
          refine lastQ_step (by rfl) (by rfl) ?_
          go_simp
          (try go_wp2_with fail)
          go_meet
          exact ⟨p29, p26, _, _, _, _, _, _, rfl, rfl, FIN.out _ rfl⟩
        · go_simp
          have KK30 := Lib.hid (KK27.out.alloc (.cells #[.string ⟨#[]⟩, .int .i64 0, .int .i64 0, .slice none 0 0, .slice none 0 0, .slice none 0 0] 33))
          have Z30 : Hid (ZK (x27.alloc (.cells #[.string ⟨#[]⟩, .int .i64 0, .int .i64 0, .slice none 0 0, .slice none 0 0, .slice none 0 0] 33)) m8 (x27.heap.size :: (p26 :: []))) := Lib.hid (Z27.out.alloc KK27.out.new.2.2.2)
          have V130 := Lib.hid (V127.out.alloc (.cells #[.string ⟨#[]⟩, .int .i64 0, .int .i64 0, .slice none 0 0, .slice none 0 0, .slice none 0 0] 33))
          refine hK.out _ _ KK30.out.s12 (fun hHeld => ?_)
          clear hK K
          try simp only [Act.put, List.setIfInBounds_toArray, List.set_cons_zero, List.set_cons_succ]
          obtain ⟨x30, hx30⟩ : ∃ x, (x27.alloc (.cells #[.string ⟨#[]⟩, .int .i64 0, .int .i64 0, .slice none 0 0, .slice none 0 0, .slice none 0 0] 33)) = x := ⟨_, rfl⟩
          rw [hx30] at KK30 Z30 V130 hHeld ⊢
          clear hx30
          obtain ⟨p30, hp30⟩ : ∃ p, x27.heap.size = p := ⟨_, rfl⟩
          rw [hp30] at Z30 V130 ⊢
          clear hp30
          refine wpAnyH_ready (rs := [3]) (by kernel_rfl) (by simp) ?_
          refine AllReadyH.cons rfl (fun K hK => ?_) AllReadyH.nil
          go_simp
          refine (v_Visible (moreS s f) boardB _ _ _ x30 KK30.out.full7 HOT.out).mono ?_
          rintro e x31 ⟨Av31, nv31, cv31, rfl, hat, hbl⟩
          have KK31 := Lib.hid (KK30.out.step hbl)
          have Z31 := Lib.hid (Z30.out.step hbl)
          have V131 := Lib.hid (V130.out.step hbl)
          have V331 := Lib.hid (VsK.new hat Z30.out)
          clear hat hbl
          refine hK.out _ _ KK31.out.s12 (fun hHeld => ?_)
          clear hK K
          try simp only [Act.put, List.setIfInBounds_toArray, List.set_cons_zero, List.set_cons_succ]
          have hz9 := (Z31.out.blk p30 (by simp)).2.2
          have y0 := (hz9.cell 0).trans (show _ = some (Value.string ⟨#[]⟩) from rfl)
          have y1 := (hz9.cell 1).trans (show _ = some (Value.int .i64 0) from rfl)
          have y2 := (hz9.cell 2).trans (show _ = some (Value.int .i64 0) from rfl)
          have y3 := (hz9.cell 3).trans (show _ = some (Value.slice none 0 0) from rfl)
          have y4 := (hz9.cell 4).trans (show _ = some (Value.slice none 0 0) from rfl)
          have y5 := (hz9.cell 5).trans (show _ = some (Value.slice none 0 0) from rfl)
          have g0 := hz9.frozen 0
          have g1 := hz9.frozen 1
          have g2 := hz9.frozen 2
          have g3 := hz9.frozen 3
          have g4 := hz9.frozen 4
          have g5 := hz9.frozen 5
          clear hz9
          refine wpAnyH_ready (rs := [6]) (by kernel_rfl) (by simp) ?_
          refine AllReadyH.cons rfl (fun K hK => ?_) AllReadyH.nil
          go_simp
          obtain ⟨k2, b2, fin⟩ := r8_end KK31.out Z31.out (p9 := p30) (p10 := p26) (by simp) (by simp) (by have h := Z31.out.nd; simp at h; omega) V131.out V331.out _ rfl
          refine hK.out _ _ k2.s12 (fun hHeld => ?_)
          clear hK K y0 g0 y1 g1 y2 g2 y3 g3 y4 g4 y5 g5
          try simp only [Act.put, List.setIfInBounds_toArray, List.set_cons_zero, List.set_cons_succ]
          have FIN := Lib.hid fin
          clear fin
          have y0 := (b2.cell 0).trans (show _ = some (Value.string ⟨#[]⟩) from rfl)
          have y1 := (b2.cell 1).trans (show _ = some (Value.int .i64 0) from rfl)
          have y2 := (b2.cell 2).trans (show _ = some (Value.int .i64 0) from rfl)
          have y3 := (b2.cell 3).trans (show _ = some (Value.slice none 0 0) from rfl)
          have y4 := (b2.cell 4).trans (show _ = some (Value.slice none 0 0) from rfl)
          have y5 := (b2.cell 5).trans (show _ = some (Value.slice none 0 0) from rfl)
          have g0 := b2.frozen 0
          have g1 := b2.frozen 1
          have g2 := b2.frozen 2
          have g3 := b2.frozen 3
          have g4 := b2.frozen 4
          have g5 := b2.frozen 5
          clear b2 k2
          generalize (((((x31.setCell ⟨p30, 0, none⟩ (.string (visS s boardB).resp)).setCell ⟨p30, 1, none⟩ (.int .i64 (visS s boardB).dep)).setCell ⟨p30, 2, none⟩ (.int .i64 (visS s boardB).day)).setCell ⟨p30, 3, none⟩ (.slice Av27 nv27 cv27)).setCell ⟨p30, 4, none⟩ (.slice none 0 0)).setCell ⟨p30, 5, none⟩ (.slice none 0 0) = wz at FIN hHeld y0 g0 y1 g1 y2 g2 y3 g3 y4 g4 y5 g5 ⊢
          refine wpAnyH_done (by kernel_rfl) ?_ _
          refine lastQ_step (by rfl) (by rfl) ?_
          go_simp
          (try go_wp2_with fail)
          go_meet
          exact ⟨p30, p26, _, _, _, _, _, _, rfl, rfl, FIN.out _ rfl⟩
      · go_simp
        have KK32 := Lib.hid (KK26.out.alloc (.cells #[.string ⟨#[]⟩, .int .i64 0, .int .i64 0, .slice none 0 0, .slice none 0 0, .slice none 0 0] 33))
        have Z32 : Hid (ZK (x26.alloc (.cells #[.string ⟨#[]⟩, .int .i64 0, .int .i64 0, .slice none 0 0, .slice none 0 0, .slice none 0 0] 33)) m8 (x26.heap.size :: (p26 :: []))) := Lib.hid (Z26.out.alloc KK26.out.new.2.2.2)
        refine hK.out _ _ KK32.out.s12 (fun hHeld => ?_)
        clear hK K
        try simp only [Act.put, List.setIfInBounds_toArray, List.set_cons_zero, List.set_cons_succ]
        obtain ⟨x32, hx32⟩ : ∃ x, (x26.alloc (.cells #[.string ⟨#[]⟩, .int .i64 0, .int .i64 0, .slice none 0 0, .slice none 0 0, .slice none 0 0] 33)) = x := ⟨_, rfl⟩
        rw [hx32] at KK32 Z32 hHeld ⊢
        clear hx32
        obtain ⟨p32, hp32⟩ : ∃ p, x26.heap.size = p := ⟨_, rfl⟩
        rw [hp32] at Z32 ⊢
        clear hp32
        refine wpAnyH_ready (rs := [1]) (by kernel_rfl) (by simp) ?_
        refine AllReadyH.cons rfl (fun K hK => ?_) AllReadyH.nil
        go_simp
        refine (v_Visible s boardB _ _ _ x32 KK32.out.full HM.out.2).mono ?_
        rintro e x33 ⟨Av33, nv33, cv33, rfl, hat, hbl⟩
        have KK33 := Lib.hid (KK32.out.step hbl)
        have Z33 := Lib.hid (Z32.out.step hbl)
        have V133 := Lib.hid (VsK.new hat Z32.out)
        clear hat hbl
        refine hK.out _ _ KK33.out.s12 (fun hHeld => ?_)
        clear hK K
        try simp only [Act.put, List.setIfInBounds_toArray, List.set_cons_zero, List.set_cons_succ]
        refine wpAnyH_ready (rs := [3]) (by kernel_rfl) (by simp) ?_
        refine AllReadyH.cons rfl (fun K hK => ?_) AllReadyH.nil
        go_simp
        refine (v_Visible (moreS s f) boardB _ _ _ x33 KK33.out.full7 HOT.out).mono ?_
        rintro e x34 ⟨Av34, nv34, cv34, rfl, hat, hbl⟩
        have KK34 := Lib.hid (KK33.out.step hbl)
        have Z34 := Lib.hid (Z33.out.step hbl)
        have V134 := Lib.hid (V133.out.step hbl)
        have V334 := Lib.hid (VsK.new hat Z33.out)
        clear hat hbl
        refine hK.out _ _ KK34.out.s12 (fun hHeld => ?_)
        clear hK K
        try simp only [Act.put, List.setIfInBounds_toArray, List.set_cons_zero, List.set_cons_succ]
        have hz9 := (Z34.out.blk p32 (by simp)).2.2
        have y0 := (hz9.cell 0).trans (show _ = some (Value.string ⟨#[]⟩) from rfl)
        have y1 := (hz9.cell 1).trans (show _ = some (Value.int .i64 0) from rfl)
        have y2 := (hz9.cell 2).trans (show _ = some (Value.int .i64 0) from rfl)
        have y3 := (hz9.cell 3).trans (show _ = some (Value.slice none 0 0) from rfl)
        have y4 := (hz9.cell 4).trans (show _ = some (Value.slice none 0 0) from rfl)
        have y5 := (hz9.cell 5).trans (show _ = some (Value.slice none 0 0) from rfl)
        have g0 := hz9.frozen 0
        have g1 := hz9.frozen 1
        have g2 := hz9.frozen 2
        have g3 := hz9.frozen 3
        have g4 := hz9.frozen 4
        have g5 := hz9.frozen 5
        clear hz9
        refine wpAnyH_ready (rs := [6]) (by kernel_rfl) (by simp) ?_
        refine AllReadyH.cons rfl (fun K hK => ?_) AllReadyH.nil
        go_simp
        obtain ⟨k2, b2, fin⟩ := r8_end KK34.out Z34.out (p9 := p32) (p10 := p26) (by simp) (by simp) (by have h := Z34.out.nd; simp at h; omega) V134.out V334.out _ rfl
        refine hK.out _ _ k2.s12 (fun hHeld => ?_)
        clear hK K y0 g0 y1 g1 y2 g2 y3 g3 y4 g4 y5 g5
        try simp only [Act.put, List.setIfInBounds_toArray, List.set_cons_zero, List.set_cons_succ]
        have FIN := Lib.hid fin
        clear fin
        have y0 := (b2.cell 0).trans (show _ = some (Value.string ⟨#[]⟩) from rfl)
        have y1 := (b2.cell 1).trans (show _ = some (Value.int .i64 0) from rfl)
        have y2 := (b2.cell 2).trans (show _ = some (Value.int .i64 0) from rfl)
        have y3 := (b2.cell 3).trans (show _ = some (Value.slice none 0 0) from rfl)
        have y4 := (b2.cell 4).trans (show _ = some (Value.slice none 0 0) from rfl)
        have y5 := (b2.cell 5).trans (show _ = some (Value.slice none 0 0) from rfl)
        have g0 := b2.frozen 0
        have g1 := b2.frozen 1
        have g2 := b2.frozen 2
        have g3 := b2.frozen 3
        have g4 := b2.frozen 4
        have g5 := b2.frozen 5
        clear b2 k2
        generalize (((((x34.setCell ⟨p32, 0, none⟩ (.string (visS s boardB).resp)).setCell ⟨p32, 1, none⟩ (.int .i64 (visS s boardB).dep)).setCell ⟨p32, 2, none⟩ (.int .i64 (visS s boardB).day)).setCell ⟨p32, 3, none⟩ (.slice Av33 nv33 cv33)).setCell ⟨p32, 4, none⟩ (.slice none 0 0)).setCell ⟨p32, 5, none⟩ (.slice none 0 0) = wz at FIN hHeld y0 g0 y1 g1 y2 g2 y3 g3 y4 g4 y5 g5 ⊢
        refine wpAnyH_done (by kernel_rfl) ?_ _
        refine lastQ_step (by rfl) (by rfl) ?_
        go_simp
        (try go_wp2_with fail)
        go_meet
        exact ⟨p32, p26, _, _, _, _, _, _, rfl, rfl, FIN.out _ rfl⟩
  case rest =>
  obtain ⟨p9, p10, Aa, na, ca, Ab, nb, cb, rfl, rfl, hkf, h9, h10⟩ := hcut
  rename World => wf
  have R := Lib.hid (show R9 w wf m8 q A1 A2 A3 n1 c1 n2 c2 n3 c3 s q7 (.slice A9 n7 c9) f p9 p10 (.slice Aa na ca) (.slice Ab nb cb) from ⟨hkf, h9, h10⟩)
  have hvn := v_Visible s nobB _ _ _ wf hkf.full HM.out.2
  unfold VisE at hvn
  rw [nobody_vis HM.out.1] at hvn
  have HVN := Lib.hid hvn
  have x0 := (hkf.b6.cell 0).trans (show _ = some (Value.string s.resp) from rfl)
  have x1 := (hkf.b6.cell 1).trans (show _ = some (Value.int .i64 s.dep) from rfl)
  have x2 := (hkf.b6.cell 2).trans (show _ = some (Value.int .i64 s.day) from rfl)
  have x3 := (hkf.b6.cell 3).trans (show _ = some (Value.slice A1 n1 c1) from rfl)
  have x4 := (hkf.b6.cell 4).trans (show _ = some (Value.slice A2 n2 c2) from rfl)
  have x5 := (hkf.b6.cell 5).trans (show _ = some (Value.slice A3 n3 c3) from rfl)
  clear hkf h9 h10 hvn MO
  go_upto_region 9 with fail
  go_wp2_with fail
  refine HVN.out.mono ?_
  rintro e wg ⟨An, nn, cn, rfl, ⟨A', n', c', hA', hn', -, -⟩, hbl⟩
  injection hA' with e1 e2 e3
  have hnn : nn = 0 := e2.trans hn'
  clear e1 e2 e3 hn' x0 x1 x2 x3 x4 x5
  subst hnn
  have hr := (R.out.step hbl).step (below_al' wg (.cells #[.string ⟨#[]⟩, .int .i64 0, .int .i64 0, .slice An 0 cn, .slice none 0 0, .slice none 0 0] 33))
  have hq := Blk.new wg 33 #[.string ⟨#[]⟩, .int .i64 0, .int .i64 0, .slice An 0 cn, .slice none 0 0, .slice none 0 0]
  go_upto_region 10 with fail
  generalize wg.alloc (.cells #[.string ⟨#[]⟩, .int .i64 0, .int .i64 0, .slice An 0 cn, .slice none 0 0, .slice none 0 0] 33) = wh at hr hq ⊢
  obtain ⟨p11, hp11⟩ : ∃ p, wg.heap.size = p := ⟨_, rfl⟩
  rw [hp11] at hq
  try rw [hp11]
  have RH := Lib.hid hr
  have y4 := (hr.a.blk.cell 4).trans (show _ = some (Value.slice none 0 0) from rfl)
  have y5 := (hr.a.blk.cell 5).trans (show _ = some (Value.slice none 0 0) from rfl)
  have y3 := (hr.a.blk.cell 3).trans (show _ = some (Value.slice Aa na ca) from rfl)
  have z0 := (hq.cell 0).trans (show _ = some (Value.string ⟨#[]⟩) from rfl)
  have z1 := (hq.cell 1).trans (show _ = some (Value.int .i64 0) from rfl)
  have z2 := (hq.cell 2).trans (show _ = some (Value.int .i64 0) from rfl)
  have z3 := (hq.cell 3).trans (show _ = some (Value.slice An 0 cn) from rfl)
  clear hq hr hbl hp11 R HVN
  go_wp2_with fail
  clear y3 y4 y5 z0 z1 z2 z3
  go_loopw [77] (fun v77 wx => ∃ j : Nat, j ≤ na ∧ v77 = .int .i64 (j : Int) ∧ R9 w wx m8 q A1 A2 A3 n1 c1 n2 c2 n3 c3 s q7 (.slice A9 n7 c9) f p9 p10 (.slice Aa na ca) (.slice Ab nb cb)) (fun v77 _ => na - (intOf v77).toNat)
  case atStart => exact ⟨0, by omega, rfl, RH.out⟩
  case round =>
    obtain ⟨j, hj, rfl, hr⟩ := hrel
    rename World => wx
    have hna : na ≤ 1000000 := by
      have h1 := (visS_ok HM.out.2 boardB).an
      obtain ⟨_, _, _, hA', hn', -, -⟩ := hr.a.at_.aa
      injection hA' with e1 e2 e3
      omega
    have R1 := Lib.hid hr
    clear RH
    by_cases hlt : j < na
    · obtain ⟨b, off, hAa, hS, hc, hnl⟩ : ∃ b off, Aa = some ⟨b, off, none⟩ ∧ b < wx.heap.size ∧ (∀ k, k < na → wx.cell? ⟨b, off + k * 3, none⟩ = some (.string (ansAt (visS s boardB).ans k).field) ∧ wx.cell? ⟨b, off + k * 3 + 1, none⟩ = some (.string (ansAt (visS s boardB).ans k).text) ∧ wx.cell? ⟨b, off + k * 3 + 2, none⟩ = some (.int .i64 (ansAt (visS s boardB).ans k).num)) ∧ na = (visS s boardB).ans.length := by
        obtain ⟨A', n', c', hA', hn', -, hc'⟩ := id hr.a.at_.aa
        injection hA' with e1 e2 e3
        subst e1 e2 e3
        obtain ⟨b, off, h1, h2, h3⟩ := hc' (by omega)
        exact ⟨b, off, h1, h2, h3, hn'⟩
      generalize hA4 : Aa = A4
      obtain rfl : A4 = some ⟨b, off, none⟩ := hA4.symm.trans hAa
      obtain ⟨x0, x1, x2⟩ := hc j hlt
      have hmem : ansAt (visS s boardB).ans j ∈ (visS s boardB).ans := ansAt_mem (by omega)
      obtain ⟨x, hx⟩ : ∃ x, ansAt (visS s boardB).ans j = x := ⟨_, rfl⟩
      rw [hx] at x0 x1 x2 hmem
      have hin := ansAt_get (more_in (f := f) hmem)
      have hsh := shwAt_get (vis_show hmem)
      obtain ⟨fl, tx, nu⟩ := x
      have HIN := Lib.hid hin
      have HSH := Lib.hid hsh
      have zi : (j : Int) < (na : Int) := by omega
      have z0 : (0 : Int) ≤ (j : Int) := by omega
      have hrw := hr.step (below_al' wx (.cells #[.string fl, .string tx, .int .i64 nu] 44))
      have hbx := Blk.new wx 44 #[.string fl, .string tx, .int .i64 nu]
      clear hin hsh hmem hx hc hnl hr R1
      go_upto_region 15 with fail
      generalize wx.alloc (.cells #[.string fl, .string tx, .int .i64 nu] 44) = wy at hrw hbx ⊢
      obtain ⟨p13, hp13⟩ : ∃ p, wx.heap.size = p := ⟨_, rfl⟩
      rw [hp13] at hbx
      try rw [hp13]
      clear x0 x1 x2 hS hp13
      have y3 := (hrw.b.blk.cell 3).trans (show _ = some (Value.slice Ab nb cb) from rfl)
      have hnb : nb ≤ 1000000 ∧ nb = (visS (moreS s f) boardB).ans.length := by
        have h1 := (visS_ok HOT.out boardB).an
        obtain ⟨_, _, _, hA', hn', -, -⟩ := hrw.b.at_.aa
        injection hA' with e1 e2 e3
        omega
      have hn3 : n3 ≤ 1000000 ∧ n3 = s.shw.length := by
        have h1 := HM.out.2.sn
        obtain ⟨_, _, _, hA', hn', -, -⟩ := hrw.k.at6.ss
        injection hA' with e1 e2 e3
        omega
      have HNB := Lib.hid hnb
      have HN3 := Lib.hid hn3
      have z1 := hnb.1
      have z3 := hn3.1
      have RY := Lib.hid hrw
      have BX := Lib.hid hbx
      clear hnb hn3 hrw hbx
      go_wp2_with fail
      go_loopw [14, 84] (fun v14 v84 w2 => ∃ (i2 : Nat) (bb : Bool), i2 ≤ nb ∧ v84 = .int .i64 (i2 : Int) ∧ v14 = .bool bb ∧ (bb = true ↔ ∃ q, q < i2 ∧ ansAt (visS (moreS s f) boardB).ans q = ⟨fl, tx, nu⟩) ∧ R9 w w2 m8 q A1 A2 A3 n1 c1 n2 c2 n3 c3 s q7 (.slice A9 n7 c9) f p9 p10 (.slice Aa na ca) (.slice Ab nb cb) ∧ Blk w2 p13 44 #[.string fl, .string tx, .int .i64 nu]) (fun _ v84 _ => nb - (intOf v84).toNat)
      case atStart => exact ⟨0, false, by omega, rfl, rfl, ⟨fun h => (by cases h), fun ⟨q, hq, _⟩ => absurd hq (Nat.not_lt_zero q)⟩, RY.out, BX.out⟩
      case round =>
        obtain ⟨i2, bb, hi2, rfl, rfl, hbb, hr2, hb2⟩ := hrel
        rename World => wz
        clear RY BX y3
        by_cases hl2 : i2 < nb
        · obtain ⟨b2, off2, hAb, hS2, hc2⟩ : ∃ b off, Ab = some ⟨b, off, none⟩ ∧ b < wz.heap.size ∧ ∀ k, k < nb → wz.cell? ⟨b, off + k * 3, none⟩ = some (.string (ansAt (visS (moreS s f) boardB).ans k).field) ∧ wz.cell? ⟨b, off + k * 3 + 1, none⟩ = some (.string (ansAt (visS (moreS s f) boardB).ans k).text) ∧ wz.cell? ⟨b, off + k * 3 + 2, none⟩ = some (.int .i64 (ansAt (visS (moreS s f) boardB).ans k).num) := by
            obtain ⟨A', n', c', hA', hn', -, hc'⟩ := id hr2.b.at_.aa
            injection hA' with e1 e2 e3
            subst e1 e2 e3
            exact hc' (by omega)
          generalize hA5 : Ab = A5
          obtain rfl : A5 = some ⟨b2, off2, none⟩ := hA5.symm.trans hAb
          obtain ⟨x0, x1, x2⟩ := hc2 i2 hl2
          obtain ⟨y, hy⟩ : ∃ y, ansAt (visS (moreS s f) boardB).ans i2 = y := ⟨_, rfl⟩
          rw [hy] at x0 x1 x2
          obtain ⟨fl2, tx2, nu2⟩ := y
          have zi2 : (i2 : Int) < (nb : Int) := by omega
          have z02 : (0 : Int) ≤ (i2 : Int) := by omega
          have h9 := in_next hy hbb _ (ans_eqb fl tx fl2 tx2 nu nu2)
          have hr3 := hr2.step (below_al' wz (.cells #[.string fl2, .string tx2, .int .i64 nu2] 44))
          have hb3 := hb2.alloc (.cells #[.string fl2, .string tx2, .int .i64 nu2] 44)
          have hb17 := Blk.new wz 44 #[.string fl2, .string tx2, .int .i64 nu2]
          clear hc2 hy hbb hr2 hb2
          go_upto_region 19 with fail
          generalize wz.alloc (.cells #[.string fl2, .string tx2, .int .i64 nu2] 44) = wv at hr3 hb3 hb17 ⊢
          obtain ⟨p17, hp17⟩ : ∃ p, wz.heap.size = p := ⟨_, rfl⟩
          rw [hp17] at hb17
          try rw [hp17]
          clear x0 x1 x2 hS2 hp17
          have a0 := (hb3.cell 0).trans (show _ = some (Value.string fl) from rfl)
          have a1 := (hb3.cell 1).trans (show _ = some (Value.string tx) from rfl)
          have a2 := (hb3.cell 2).trans (show _ = some (Value.int .i64 nu) from rfl)
          have d0 := (hb17.cell 0).trans (show _ = some (Value.string fl2) from rfl)
          have d1 := (hb17.cell 1).trans (show _ = some (Value.string tx2) from rfl)
          have d2 := (hb17.cell 2).trans (show _ = some (Value.int .i64 nu2) from rfl)
          have H9 := Lib.hid h9
          have R3 := Lib.hid (And.intro hr3 hb3)
          clear h9 hr3 hb3 hb17
          cases bb
          · cases k0 : (fl.toList == fl2.toList) <;> cases k1 : (tx.toList == tx2.toList) <;> cases k2 : (nu == nu2)
            all_goals
              have h9 := H9.out
              rw [k0, k1, k2] at h9
              have H8 := Lib.hid h9
              clear h9 H9
              go_wp2_with fail
              go_roundw
              case measure => simp [intOf]; omega
              case rel => exact ⟨i2 + 1, _, by omega, by go_num, rfl, H8.out, hAb ▸ R3.out⟩
          · go_wp2_with fail
            go_roundw
            case measure => simp [intOf]; omega
            case rel => exact ⟨i2 + 1, true, by omega, by go_num, rfl, (by have h9 := H9.out; rw [Bool.true_or] at h9; exact h9), hAb ▸ R3.out⟩
        · have zi2 : ¬ (i2 : Int) < (nb : Int) := by omega
          have hbt : bb = true := hbb.2 (by obtain ⟨q, h1, h2⟩ := HIN.out; exact ⟨q, by have := HNB.out.2; omega, h2⟩)
          subst hbt
          have R2 := Lib.hid hr2
          have B2 := Lib.hid hb2
          have c5 := (hr2.k.b6.cell 5).trans (show _ = some (Value.slice A3 n3 c3) from rfl)
          clear hbb hr2 hb2
          go_wp2_with fail
          go_loopw [15, 98] (fun v15 v98 w2 => ∃ (i3 : Nat) (bb : Bool), i3 ≤ n3 ∧ v98 = .int .i64 (i3 : Int) ∧ v15 = .bool bb ∧ (bb = true ↔ ∃ q, q < i3 ∧ shwAt s.shw q = ⟨fl, boardB⟩) ∧ R9 w w2 m8 q A1 A2 A3 n1 c1 n2 c2 n3 c3 s q7 (.slice A9 n7 c9) f p9 p10 (.slice Aa na ca) (.slice Ab nb cb) ∧ Blk w2 p13 44 #[.string fl, .string tx, .int .i64 nu]) (fun _ v98 _ => n3 - (intOf v98).toNat)
          case atStart => exact ⟨0, false, by omega, rfl, rfl, ⟨fun h => (by cases h), fun ⟨q, hq, _⟩ => absurd hq (Nat.not_lt_zero q)⟩, R2.out, B2.out⟩
          case round =>
            obtain ⟨i3, bb, hi3, rfl, rfl, hbb, hr2, hb2⟩ := hrel
            rename World => wz3
            clear R2 B2 c5
            by_cases hl3 : i3 < n3
            · obtain ⟨b3, off3, hA3, hS3, hc3⟩ : ∃ b off, A3 = some ⟨b, off, none⟩ ∧ b < wz3.heap.size ∧ ∀ k, k < n3 → wz3.cell? ⟨b, off + k * 2, none⟩ = some (.string (shwAt s.shw k).field) ∧ wz3.cell? ⟨b, off + k * 2 + 1, none⟩ = some (.string (shwAt s.shw k).role) := by
                obtain ⟨A', n', c', hA', hn', -, hc'⟩ := id hr2.k.full.ss
                injection hA' with e1 e2 e3
                subst e1 e2 e3
                exact hc' (by omega)
              generalize hA6 : A3 = A6
              obtain rfl : A6 = some ⟨b3, off3, none⟩ := hA6.symm.trans hA3
              obtain ⟨x0, x1⟩ := hc3 i3 hl3
              obtain ⟨y, hy⟩ : ∃ y, shwAt s.shw i3 = y := ⟨_, rfl⟩
              rw [hy] at x0 x1
              obtain ⟨gf, gr⟩ := y
              have zi3 : (i3 : Int) < (n3 : Int) := by omega
              have z03 : (0 : Int) ≤ (i3 : Int) := by omega
              have h9 := sh_next hy hbb _ (shw_eqb gf gr fl boardB)
              rw [show boardB.toList = [98, 111, 97, 114, 100] from by rw [ByteArray.toList_eq]; rfl] at h9
              have hr3 := hr2.step (below_al' wz3 (.cells #[.string gf, .string gr] 41))
              have hb3 := hb2.alloc (.cells #[.string gf, .string gr] 41)
              have hb19 := Blk.new wz3 41 #[.string gf, .string gr]
              clear hc3 hy hbb hr2 hb2
              go_upto_region 24 with fail
              generalize wz3.alloc (.cells #[.string gf, .string gr] 41) = wv at hr3 hb3 hb19 ⊢
              obtain ⟨p19, hp19⟩ : ∃ p, wz3.heap.size = p := ⟨_, rfl⟩
              rw [hp19] at hb19
              try rw [hp19]
              clear x0 x1 hS3 hp19
              have a0 := (hb3.cell 0).trans (show _ = some (Value.string fl) from rfl)
              have d0 := (hb19.cell 0).trans (show _ = some (Value.string gf) from rfl)
              have d1 := (hb19.cell 1).trans (show _ = some (Value.string gr) from rfl)
              have H9 := Lib.hid h9
              have R3 := Lib.hid (And.intro hr3 hb3)
              clear h9 hr3 hb3 hb19
              cases bb
              · cases k0 : (gf.toList == fl.toList) <;> cases k1 : (gr.toList == [98, 111, 97, 114, 100])
                all_goals
                  have h9 := H9.out
                  rw [k0, k1] at h9
                  have H8 := Lib.hid h9
                  clear h9 H9
                  go_wp2_with fail
                  go_roundw
                  case measure => simp [intOf]; omega
                  case rel => exact ⟨i3 + 1, _, by omega, by go_num, rfl, H8.out, hA3 ▸ R3.out⟩
              · go_wp2_with fail
                go_roundw
                case measure => simp [intOf]; omega
                case rel => exact ⟨i3 + 1, true, by omega, by go_num, rfl, (by have h9 := H9.out; rw [Bool.true_or] at h9; exact h9), hA3 ▸ R3.out⟩
            · have zi3 : ¬ (i3 : Int) < (n3 : Int) := by omega
              have hbt : bb = true := hbb.2 (by obtain ⟨q, h1, h2⟩ := HSH.out; exact ⟨q, by have := HN3.out.2; omega, h2⟩)
              subst hbt
              have R4 := Lib.hid hr2
              clear hbb hr2 hb2
              go_wp2_with fail
              go_roundw
              case measure => simp [intOf]; omega
              case rel => exact ⟨j + 1, by omega, by go_num, hAa ▸ R4.out⟩
    · have zi : ¬ (j : Int) < (na : Int) := by omega
      have hr := R1.out
      have x0 := (hr.k.b7.cell 0).trans (show _ = some (Value.string s.resp) from rfl)
      have x1 := (hr.k.b7.cell 1).trans (show _ = some (Value.int .i64 s.dep) from rfl)
      have x2 := (hr.k.b7.cell 2).trans (show _ = some (Value.int .i64 s.day) from rfl)
      have x3 := (hr.k.b7.cell 3).trans (show _ = some (Value.slice A1 n1 c1) from rfl)
      have x4 := (hr.k.b7.cell 4).trans (show _ = some (Value.slice A2 n2 c2) from rfl)
      have x5 := (hr.k.b7.cell 5).trans (show _ = some (Value.slice A9 n7 c9) from rfl)
      have hvc := v_Visible (moreS s f) counB _ _ _ wx hr.k.full7 HOT.out
      unfold VisE at hvc
      rw [more_coun s f] at hvc
      have HVC := Lib.hid hvc
      clear hr hvc
      go_upto_region 29 with fail
      go_wp2_with fail
      refine HVC.out.mono ?_
      rintro e wy ⟨Ac, nc, cc, rfl, hat, hbl⟩
      have hr := (R1.out.step hbl).step (below_al' wy (.cells #[.string (visS s counB).resp, .int .i64 (visS s counB).dep, .int .i64 (visS s counB).day, .slice Ac nc cc, .slice none 0 0, .slice none 0 0] 33))
      have hC := BkS.new (vis_at (s := s) (r := counB) (hat.mono fun b h => h.2))
      clear x0 x1 x2 x3 x4 x5 hat hbl R1
      go_upto_region 30 with fail
      generalize wy.alloc (.cells #[.string (visS s counB).resp, .int .i64 (visS s counB).dep, .int .i64 (visS s counB).day, .slice Ac nc cc, .slice none 0 0, .slice none 0 0] 33) = wz at hr hC ⊢
      obtain ⟨p20, hp20⟩ : ∃ p, wy.heap.size = p := ⟨_, rfl⟩
      rw [hp20] at hC
      try rw [hp20]
      have hcok := visS_ok HM.out.2 counB
      have hres := more_resp s f
      obtain ⟨u, hu⟩ : ∃ u, visS s counB = u := ⟨_, rfl⟩
      obtain ⟨ra, hra⟩ : ∃ x, (visS s boardB).resp = x := ⟨_, rfl⟩
      obtain ⟨rb, hrb⟩ : ∃ x, (visS (moreS s f) boardB).resp = x := ⟨_, rfl⟩
      obtain ⟨db, hdb⟩ : ∃ x, (visS (moreS s f) boardB).day = x := ⟨_, rfl⟩
      have hday : f = dayB → db = s.day := fun e => by rw [← hdb, e]; exact more_day s
      rw [hra, hrb] at hres
      rw [hu] at hC hcok ⊢
      have lim : ∀ W, Below wz.heap.size wz W → W.cell? ⟨q, 0, none⟩ = some (.string s.resp) ∧ W.cell? ⟨q, 1, none⟩ = some (.int .i64 s.dep) ∧ W.cell? ⟨q, 2, none⟩ = some (.int .i64 s.day) ∧ W.cell? ⟨q, 3, none⟩ = some (.slice A1 n1 c1) ∧ W.cell? ⟨q, 4, none⟩ = some (.slice A2 n2 c2) ∧ W.cell? ⟨q, 5, none⟩ = some (.slice A3 n3 c3) ∧ W.cell? ⟨p20, 0, none⟩ = some (.string u.resp) ∧ W.cell? ⟨p20, 1, none⟩ = some (.int .i64 u.dep) ∧ W.cell? ⟨p20, 2, none⟩ = some (.int .i64 u.day) ∧ W.cell? ⟨p20, 3, none⟩ = some (.slice Ac nc cc) ∧ W.cell? ⟨p20, 4, none⟩ = some (.slice none 0 0) ∧ W.cell? ⟨p20, 5, none⟩ = some (.slice none 0 0) ∧ W.cell? ⟨p9, 0, none⟩ = some (.string ra) ∧ W.cell? ⟨p10, 0, none⟩ = some (.string rb) ∧ W.cell? ⟨p10, 2, none⟩ = some (.int .i64 db) := fun W hW => by
        have h1 := (hr.step hW).k.b6
        have h2 := (hC.step hW).blk
        have h3 := (hr.step hW).a.blk
        have h4 := (hr.step hW).b.blk
        rw [hra] at h3
        rw [hrb, hdb] at h4
        exact ⟨(h1.cell 0).trans rfl, (h1.cell 1).trans rfl, (h1.cell 2).trans rfl, (h1.cell 3).trans rfl, (h1.cell 4).trans rfl, (h1.cell 5).trans rfl, (h2.cell 0).trans rfl, (h2.cell 1).trans rfl, (h2.cell 2).trans rfl, (h2.cell 3).trans rfl, (h2.cell 4).trans rfl, (h2.cell 5).trans rfl, (h3.cell 0).trans rfl, (h4.cell 0).trans rfl, (h4.cell 2).trans rfl⟩
      have LIM := Lib.hid lim
      have hp1 : ∀ W, Below wz.heap.size wz W → Calls Tryz.prog 9 #[.agg #[.string s.resp, .int .i64 s.dep, .int .i64 s.day, .slice A1 n1 c1, .slice A2 n2 c2, .slice A3 n3 c3], .string ⟨#[99, 111, 117, 110, 115, 101, 108, 108, 111, 114]⟩] W fun e W' => ∃ Ad nd cd, e = .returned (.agg #[.string u.resp, .int .i64 u.dep, .int .i64 u.day, .slice Ad nd cd, .slice none 0 0, .slice none 0 0]) ∧ Below wz.heap.size wz W' ∧
          Calls Tryz.prog 10 #[.agg #[.string u.resp, .int .i64 u.dep, .int .i64 u.day, .slice Ac nc cc, .slice none 0 0, .slice none 0 0], .agg #[.string u.resp, .int .i64 u.dep, .int .i64 u.day, .slice Ad nd cd, .slice none 0 0, .slice none 0 0]] W' (SameB (u = u) W') := fun W hW =>
        (v_Visible s counB _ _ _ W (hr.step hW).k.full HM.out.2).mono fun e W' hh => by
          obtain ⟨Ad, nd, cd, he, hat, hbl⟩ := hh
          have hW' := hW.trans (hbl.mono hW.size)
          have hd : StmAt W' (· < W'.heap.size) (.slice Ad nd cd) (.slice none 0 0) (.slice none 0 0) (visS s counB) := vis_at (hat.mono fun b h => h.2)
          rw [hu] at he hd
          exact ⟨Ad, nd, cd, he, hW', r_SameS u u Ac none none Ad none none nc cc 0 0 0 0 nd cd 0 0 0 0 W' (hC.step hW').at_ hd hcok hcok⟩
      have P1 := Lib.hid hp1
      have hp3 : ∀ W, Below wz.heap.size wz W → Calls Tryz.prog 5 #[] W (AwkO W) := fun W hW => aw_awake W (HL.out.later (hr.k.old.trans (hW.mono hr.k.old.size)))
      have P3 := Lib.hid hp3
      have HOLD := Lib.hid hr.k.old
      have K_0 : Hid (Below wz.heap.size wz wz.drew) := Lib.hid (Below.refl _ _).drew
      clear lim hp1 hp3 hr hC hcok hu hra hrb hdb hp20 HVC
      cases e0 : (ra.toList == [])
      · obtain rfl : rb = ra := by
          rcases hres with h | h
          · rw [h] at e0; simp at e0
          · exact h
        clear hres
        cases e2 : (f.toList == [100, 97, 121])
        · have e2n : (f.toList != [100, 97, 121]) = true := by simpa [bne] using e2
          clear hday
          refine wp_region_held_drew (S := fun W => W.cell? ⟨q, 0, none⟩ = some (.string s.resp) ∧ W.cell? ⟨q, 1, none⟩ = some (.int .i64 s.dep) ∧ W.cell? ⟨q, 2, none⟩ = some (.int .i64 s.day) ∧ W.cell? ⟨q, 3, none⟩ = some (.slice A1 n1 c1) ∧ W.cell? ⟨q, 4, none⟩ = some (.slice A2 n2 c2) ∧ W.cell? ⟨q, 5, none⟩ = some (.slice A3 n3 c3) ∧ W.cell? ⟨p20, 0, none⟩ = some (.string u.resp) ∧ W.cell? ⟨p20, 1, none⟩ = some (.int .i64 u.dep) ∧ W.cell? ⟨p20, 2, none⟩ = some (.int .i64 u.day) ∧ W.cell? ⟨p20, 3, none⟩ = some (.slice Ac nc cc) ∧ W.cell? ⟨p20, 4, none⟩ = some (.slice none 0 0) ∧ W.cell? ⟨p20, 5, none⟩ = some (.slice none 0 0) ∧ W.cell? ⟨p9, 0, none⟩ = some (.string rb) ∧ W.cell? ⟨p10, 0, none⟩ = some (.string rb) ∧ W.cell? ⟨p10, 2, none⟩ = some (.int .i64 db)) (by kernel_rfl) (LIM.out _ K_0.out) (fun hHeld => ?_)
          refine wpAnyH_take (i := 0) (v := ?_) rfl (by kernel_rfl) (by kernel_rfl) (by kernel_rfl) (fun _ _ _ h => h) (Or.inl ⟨by kernel_rfl, ?_⟩) (by assumption) ?_
          rotate_left
          · (intro w hSw; (try dsimp only at hSw); (try go_split_ands); go_simp; (try with_reducible rfl))
          try simp only [Act.put, List.setIfInBounds_toArray, List.set_cons_zero, List.set_cons_succ]
          refine wpAnyH_take (i := 1) (v := ?_) rfl (by kernel_rfl) (by kernel_rfl) (by kernel_rfl) (fun _ _ _ h => h) (Or.inl ⟨by kernel_rfl, ?_⟩) (by assumption) ?_
          rotate_left
          · (intro w hSw; (try dsimp only at hSw); (try go_split_ands); go_simp; (try with_reducible rfl))
          try simp only [Act.put, List.setIfInBounds_toArray, List.set_cons_zero, List.set_cons_succ]
          refine wpAnyH_ready (rs := [2]) (by kernel_rfl) (by simp) ?_
          refine AllReadyH.cons rfl (fun K hK => ?_) AllReadyH.nil
          go_simp
          refine (P1.out _ K_0.out).mono ?_
          rintro e w2 ⟨Ad, nd, cd, rfl, hb2, hsm⟩
          have K_1 := Lib.hid hb2
          have P2 := Lib.hid hsm
          clear hb2 hsm
          refine hK.out _ _ (LIM.out _ K_1.out) (fun hHeld => ?_)
          clear hK K
          try simp only [Act.put, List.setIfInBounds_toArray, List.set_cons_zero, List.set_cons_succ]
          refine wpAnyH_ready (rs := [3]) (by kernel_rfl) (by simp) ?_
          refine AllReadyH.cons rfl (fun K hK => ?_) AllReadyH.nil
          go_simp
          refine (P2.out).mono ?_
          rintro e w3 ⟨bs, rfl, hbs, hb3⟩
          obtain rfl : bs = true := hbs.2 (by trivial)
          have K_2 := Lib.hid (K_1.out.trans (hb3.mono K_1.out.size))
          clear hb3 hbs
          refine hK.out _ _ (LIM.out _ K_2.out) (fun hHeld => ?_)
          clear hK K
          try simp only [Act.put, List.setIfInBounds_toArray, List.set_cons_zero, List.set_cons_succ]
          refine wpAnyH_take (i := 4) (v := ?_) rfl (by kernel_rfl) (by kernel_rfl) (by kernel_rfl) (fun _ _ _ h => h) (Or.inl ⟨by kernel_rfl, ?_⟩) (by assumption) ?_
          rotate_left
          · (intro w hSw; (try dsimp only at hSw); (try go_split_ands); go_simp; (try with_reducible rfl))
          try simp only [Act.put, List.setIfInBounds_toArray, List.set_cons_zero, List.set_cons_succ]
          refine wpAnyH_take (i := 5) (v := ?_) rfl (by kernel_rfl) (by kernel_rfl) (by kernel_rfl) (fun _ _ _ h => h) (Or.inl ⟨by kernel_rfl, ?_⟩) (by assumption) ?_
          rotate_left
          · (intro w hSw; (try dsimp only at hSw); (try go_split_ands); go_simp; (try with_reducible rfl))
          try simp only [Act.put, List.setIfInBounds_toArray, List.set_cons_zero, List.set_cons_succ]
          refine wpAnyH_take (i := 6) (v := ?_) rfl (by kernel_rfl) (by kernel_rfl) (by kernel_rfl) (fun _ _ _ h => h) (Or.inl ⟨by kernel_rfl, ?_⟩) (by assumption) ?_
          rotate_left
          · (intro w hSw; (try dsimp only at hSw); (try go_split_ands); go_simp; (try with_reducible rfl))
          try simp only [Act.put, List.setIfInBounds_toArray, List.set_cons_zero, List.set_cons_succ]
          refine wpAnyH_take (i := 7) (v := ?_) rfl (by kernel_rfl) (by kernel_rfl) (by kernel_rfl) (fun _ _ _ h => h) (Or.inl ⟨by kernel_rfl, ?_⟩) (by assumption) ?_
          rotate_left
          · (intro w hSw; (try dsimp only at hSw); (try go_split_ands); go_simp; (try with_reducible rfl))
          try simp only [Act.put, List.setIfInBounds_toArray, List.set_cons_zero, List.set_cons_succ]
          refine wpAnyH_take (i := 8) (v := ?_) rfl (by kernel_rfl) (by kernel_rfl) (by kernel_rfl) (fun _ _ _ h => h) (Or.inl ⟨by kernel_rfl, ?_⟩) (by assumption) ?_
          rotate_left
          · (intro w hSw; (try dsimp only at hSw); (try go_split_ands); go_simp; (try with_reducible rfl))
          try simp only [Act.put, List.setIfInBounds_toArray, List.set_cons_zero, List.set_cons_succ]
          refine wpAnyH_take (i := 9) (v := ?_) rfl (by kernel_rfl) (by kernel_rfl) (by kernel_rfl) (fun _ _ _ h => h) (Or.inl ⟨by kernel_rfl, ?_⟩) (by assumption) ?_
          rotate_left
          · (intro w hSw; (try dsimp only at hSw); (try go_split_ands); go_simp; (try with_reducible rfl))
          try simp only [Act.put, List.setIfInBounds_toArray, List.set_cons_zero, List.set_cons_succ]
          refine wpAnyH_take (i := 10) (v := ?_) rfl (by kernel_rfl) (by kernel_rfl) (by kernel_rfl) (fun _ _ _ h => h) (Or.inl ⟨by kernel_rfl, ?_⟩) (by assumption) ?_
          rotate_left
          · (intro w hSw; (try dsimp only at hSw); (try go_split_ands); go_simp; (try with_reducible rfl))
          try simp only [Act.put, List.setIfInBounds_toArray, List.set_cons_zero, List.set_cons_succ]
          refine wpAnyH_take (i := 11) (v := ?_) rfl (by kernel_rfl) (by kernel_rfl) (by kernel_rfl) (fun _ _ _ h => h) (Or.inl ⟨by kernel_rfl, ?_⟩) (by assumption) ?_
          rotate_left
          · (intro w hSw; (try dsimp only at hSw); (try go_split_ands); go_simp; (try with_reducible rfl))
          try simp only [Act.put, List.setIfInBounds_toArray, List.set_cons_zero, List.set_cons_succ]
          refine wpAnyH_take (i := 12) (v := ?_) rfl (by kernel_rfl) (by kernel_rfl) (by kernel_rfl) (fun _ _ _ h => h) (Or.inl ⟨by kernel_rfl, ?_⟩) (by assumption) ?_
          rotate_left
          · (intro w hSw; (try dsimp only at hSw); (try go_split_ands); go_simp; (try with_reducible rfl))
          try simp only [Act.put, List.setIfInBounds_toArray, List.set_cons_zero, List.set_cons_succ]
          refine wpAnyH_take (i := 13) (v := ?_) rfl (by kernel_rfl) (by kernel_rfl) (by kernel_rfl) (fun _ _ _ h => h) (Or.inl ⟨by kernel_rfl, ?_⟩) (by assumption) ?_
          rotate_left
          · (intro w hSw; (try dsimp only at hSw); (try go_split_ands); go_simp; (try with_reducible rfl))
          try simp only [Act.put, List.setIfInBounds_toArray, List.set_cons_zero, List.set_cons_succ]
          refine wpAnyH_take (i := 14) (v := ?_) rfl (by kernel_rfl) (by kernel_rfl) (by kernel_rfl) (fun _ _ _ h => h) (Or.inl ⟨by kernel_rfl, ?_⟩) (by assumption) ?_
          rotate_left
          · (intro w hSw; (try dsimp only at hSw); (try go_split_ands); go_simp; (try with_reducible rfl))
          try simp only [Act.put, List.setIfInBounds_toArray, List.set_cons_zero, List.set_cons_succ]
          refine wpAnyH_take (i := 15) (v := ?_) rfl (by kernel_rfl) (by kernel_rfl) (by kernel_rfl) (fun _ _ _ h => h) (Or.inl ⟨by kernel_rfl, ?_⟩) (by assumption) ?_
          rotate_left
          · (intro w hSw; (try dsimp only at hSw); (try go_split_ands); go_simp; (try with_reducible rfl))
          try simp only [Act.put, List.setIfInBounds_toArray, List.set_cons_zero, List.set_cons_succ]
          refine wpAnyH_take (i := 16) (v := ?_) rfl (by kernel_rfl) (by kernel_rfl) (by kernel_rfl) (fun _ _ _ h => h) (Or.inl ⟨by kernel_rfl, ?_⟩) (by assumption) ?_
          rotate_left
          · (intro w hSw; (try dsimp only at hSw); (try go_split_ands); go_simp; (try with_reducible rfl))
          try simp only [Act.put, List.setIfInBounds_toArray, List.set_cons_zero, List.set_cons_succ]
          refine wpAnyH_take (i := 17) (v := ?_) rfl (by kernel_rfl) (by kernel_rfl) (by kernel_rfl) (fun _ _ _ h => h) (Or.inl ⟨by kernel_rfl, ?_⟩) (by assumption) ?_
          rotate_left
          · (intro w hSw; (try dsimp only at hSw); (try go_split_ands); go_simp; (try with_reducible rfl))
          try simp only [Act.put, List.setIfInBounds_toArray, List.set_cons_zero, List.set_cons_succ]
          refine wpAnyH_take (i := 18) (v := ?_) rfl (by kernel_rfl) (by kernel_rfl) (by kernel_rfl) (fun _ _ _ h => h) (Or.inl ⟨by kernel_rfl, ?_⟩) (by assumption) ?_
          rotate_left
          · (intro w hSw; (try dsimp only at hSw); (try go_split_ands); go_simp; (try with_reducible rfl))
          try simp only [Act.put, List.setIfInBounds_toArray, List.set_cons_zero, List.set_cons_succ]
          refine wpAnyH_take (i := 19) (v := ?_) rfl (by kernel_rfl) (by kernel_rfl) (by kernel_rfl) (fun _ _ _ h => h) (Or.inl ⟨by kernel_rfl, ?_⟩) (by assumption) ?_
          rotate_left
          · (intro w hSw; (try dsimp only at hSw); (try go_split_ands); go_simp; (try with_reducible rfl))
          try simp only [Act.put, List.setIfInBounds_toArray, List.set_cons_zero, List.set_cons_succ]
          refine wpAnyH_take (i := 20) (v := undef) rfl (by kernel_rfl) (by kernel_rfl) (by kernel_rfl) (fun _ _ _ h => h) (Or.inr ⟨by kernel_rfl, rfl⟩) (by assumption) ?_
          try simp only [Act.put, List.setIfInBounds_toArray, List.set_cons_zero, List.set_cons_succ]
          refine wpAnyH_take (i := 21) (v := undef) rfl (by kernel_rfl) (by kernel_rfl) (by kernel_rfl) (fun _ _ _ h => h) (Or.inr ⟨by kernel_rfl, rfl⟩) (by assumption) ?_
          try simp only [Act.put, List.setIfInBounds_toArray, List.set_cons_zero, List.set_cons_succ]
          refine wpAnyH_take (i := 22) (v := undef) rfl (by kernel_rfl) (by kernel_rfl) (by kernel_rfl) (fun _ _ _ h => h) (Or.inr ⟨by kernel_rfl, rfl⟩) (by assumption) ?_
          try simp only [Act.put, List.setIfInBounds_toArray, List.set_cons_zero, List.set_cons_succ]
          refine wpAnyH_take (i := 23) (v := undef) rfl (by kernel_rfl) (by kernel_rfl) (by kernel_rfl) (fun _ _ _ h => h) (Or.inr ⟨by kernel_rfl, rfl⟩) (by assumption) ?_
          try simp only [Act.put, List.setIfInBounds_toArray, List.set_cons_zero, List.set_cons_succ]
          refine wpAnyH_take (i := 24) (v := undef) rfl (by kernel_rfl) (by kernel_rfl) (by kernel_rfl) (fun _ _ _ h => h) (Or.inr ⟨by kernel_rfl, rfl⟩) (by assumption) ?_
          try simp only [Act.put, List.setIfInBounds_toArray, List.set_cons_zero, List.set_cons_succ]
          refine wpAnyH_take (i := 25) (v := ?_) rfl (by kernel_rfl) (by kernel_rfl) (by kernel_rfl) (fun _ _ _ h => h) (Or.inl ⟨by kernel_rfl, ?_⟩) (by assumption) ?_
          rotate_left
          · (intro w hSw; (try dsimp only at hSw); (try go_split_ands); go_simp; (try with_reducible rfl))
          try simp only [Act.put, List.setIfInBounds_toArray, List.set_cons_zero, List.set_cons_succ]
          refine wpAnyH_take (i := 26) (v := ?_) rfl (by kernel_rfl) (by kernel_rfl) (by kernel_rfl) (fun _ _ _ h => h) (Or.inl ⟨by kernel_rfl, ?_⟩) (by assumption) ?_
          rotate_left
          · (intro w hSw; (try dsimp only at hSw); (try go_split_ands); go_simp; (try with_reducible rfl))
          try simp only [Act.put, List.setIfInBounds_toArray, List.set_cons_zero, List.set_cons_succ]
          refine wpAnyH_take (i := 27) (v := ?_) rfl (by kernel_rfl) (by kernel_rfl) (by kernel_rfl) (fun _ _ _ h => h) (Or.inl ⟨by kernel_rfl, ?_⟩) (by assumption) ?_
          rotate_left
          · (intro w hSw; (try dsimp only at hSw); (try go_split_ands); go_simp; (try with_reducible rfl))
          try simp only [Act.put, List.setIfInBounds_toArray, List.set_cons_zero, List.set_cons_succ]
          refine wpAnyH_ready (rs := [28]) (by kernel_rfl) (by simp) ?_
          refine AllReadyH.cons rfl (fun K hK => ?_) AllReadyH.nil
          go_simp
          refine (P3.out _ K_2.out).mono ?_
          rintro e w4 ⟨rfl, hb4⟩
          have K_3 := Lib.hid (K_2.out.trans (hb4.mono K_2.out.size))
          clear hb4
          refine hK.out _ _ (LIM.out _ K_3.out) (fun hHeld => ?_)
          clear hK K
          try simp only [Act.put, List.setIfInBounds_toArray, List.set_cons_zero, List.set_cons_succ]
          refine wpAnyH_take (i := 29) (v := ?_) rfl (by kernel_rfl) (by kernel_rfl) (by kernel_rfl) (fun _ _ _ h => h) (Or.inl ⟨by kernel_rfl, ?_⟩) (by assumption) ?_
          rotate_left
          · (intro w hSw; (try dsimp only at hSw); (try go_split_ands); go_simp; (try with_reducible rfl))
          try simp only [Act.put, List.setIfInBounds_toArray, List.set_cons_zero, List.set_cons_succ]
          refine wpAnyH_take (i := 30) (v := ?_) rfl (by kernel_rfl) (by kernel_rfl) (by kernel_rfl) (fun _ _ _ h => h) (Or.inl ⟨by kernel_rfl, ?_⟩) (by assumption) ?_
          rotate_left
          · (intro w hSw; (try dsimp only at hSw); (try go_split_ands); go_simp; (try with_reducible rfl))
          try simp only [Act.put, List.setIfInBounds_toArray, List.set_cons_zero, List.set_cons_succ]
          refine wpAnyH_done (by kernel_rfl) ?_ _
          go_wp2_with fail
          go_ret
          exact ⟨rfl, HOLD.out.trans (K_3.out.mono HOLD.out.size)⟩
        · have e2n : (f.toList != [100, 97, 121]) = false := by simpa [bne] using e2
          have hfd : f = dayB := by
            have h : (f.toList == dayB.toList) = true := by rw [show dayB.toList = [100, 97, 121] from by rw [ByteArray.toList_eq]; rfl]; exact e2
            exact (bytes_of h).symm
          obtain rfl : db = s.day := hday hfd
          clear hday hfd
          refine wp_region_held_drew (S := fun W => W.cell? ⟨q, 0, none⟩ = some (.string s.resp) ∧ W.cell? ⟨q, 1, none⟩ = some (.int .i64 s.dep) ∧ W.cell? ⟨q, 2, none⟩ = some (.int .i64 s.day) ∧ W.cell? ⟨q, 3, none⟩ = some (.slice A1 n1 c1) ∧ W.cell? ⟨q, 4, none⟩ = some (.slice A2 n2 c2) ∧ W.cell? ⟨q, 5, none⟩ = some (.slice A3 n3 c3) ∧ W.cell? ⟨p20, 0, none⟩ = some (.string u.resp) ∧ W.cell? ⟨p20, 1, none⟩ = some (.int .i64 u.dep) ∧ W.cell? ⟨p20, 2, none⟩ = some (.int .i64 u.day) ∧ W.cell? ⟨p20, 3, none⟩ = some (.slice Ac nc cc) ∧ W.cell? ⟨p20, 4, none⟩ = some (.slice none 0 0) ∧ W.cell? ⟨p20, 5, none⟩ = some (.slice none 0 0) ∧ W.cell? ⟨p9, 0, none⟩ = some (.string rb) ∧ W.cell? ⟨p10, 0, none⟩ = some (.string rb) ∧ W.cell? ⟨p10, 2, none⟩ = some (.int .i64 s.day)) (by kernel_rfl) (LIM.out _ K_0.out) (fun hHeld => ?_)
          refine wpAnyH_take (i := 0) (v := ?_) rfl (by kernel_rfl) (by kernel_rfl) (by kernel_rfl) (fun _ _ _ h => h) (Or.inl ⟨by kernel_rfl, ?_⟩) (by assumption) ?_
          rotate_left
          · (intro w hSw; (try dsimp only at hSw); (try go_split_ands); go_simp; (try with_reducible rfl))
          try simp only [Act.put, List.setIfInBounds_toArray, List.set_cons_zero, List.set_cons_succ]
          refine wpAnyH_take (i := 1) (v := ?_) rfl (by kernel_rfl) (by kernel_rfl) (by kernel_rfl) (fun _ _ _ h => h) (Or.inl ⟨by kernel_rfl, ?_⟩) (by assumption) ?_
          rotate_left
          · (intro w hSw; (try dsimp only at hSw); (try go_split_ands); go_simp; (try with_reducible rfl))
          try simp only [Act.put, List.setIfInBounds_toArray, List.set_cons_zero, List.set_cons_succ]
          refine wpAnyH_ready (rs := [2]) (by kernel_rfl) (by simp) ?_
          refine AllReadyH.cons rfl (fun K hK => ?_) AllReadyH.nil
          go_simp
          refine (P1.out _ K_0.out).mono ?_
          rintro e w2 ⟨Ad, nd, cd, rfl, hb2, hsm⟩
          have K_1 := Lib.hid hb2
          have P2 := Lib.hid hsm
          clear hb2 hsm
          refine hK.out _ _ (LIM.out _ K_1.out) (fun hHeld => ?_)
          clear hK K
          try simp only [Act.put, List.setIfInBounds_toArray, List.set_cons_zero, List.set_cons_succ]
          refine wpAnyH_ready (rs := [3]) (by kernel_rfl) (by simp) ?_
          refine AllReadyH.cons rfl (fun K hK => ?_) AllReadyH.nil
          go_simp
          refine (P2.out).mono ?_
          rintro e w3 ⟨bs, rfl, hbs, hb3⟩
          obtain rfl : bs = true := hbs.2 (by trivial)
          have K_2 := Lib.hid (K_1.out.trans (hb3.mono K_1.out.size))
          clear hb3 hbs
          refine hK.out _ _ (LIM.out _ K_2.out) (fun hHeld => ?_)
          clear hK K
          try simp only [Act.put, List.setIfInBounds_toArray, List.set_cons_zero, List.set_cons_succ]
          refine wpAnyH_take (i := 4) (v := ?_) rfl (by kernel_rfl) (by kernel_rfl) (by kernel_rfl) (fun _ _ _ h => h) (Or.inl ⟨by kernel_rfl, ?_⟩) (by assumption) ?_
          rotate_left
          · (intro w hSw; (try dsimp only at hSw); (try go_split_ands); go_simp; (try with_reducible rfl))
          try simp only [Act.put, List.setIfInBounds_toArray, List.set_cons_zero, List.set_cons_succ]
          refine wpAnyH_take (i := 5) (v := ?_) rfl (by kernel_rfl) (by kernel_rfl) (by kernel_rfl) (fun _ _ _ h => h) (Or.inl ⟨by kernel_rfl, ?_⟩) (by assumption) ?_
          rotate_left
          · (intro w hSw; (try dsimp only at hSw); (try go_split_ands); go_simp; (try with_reducible rfl))
          try simp only [Act.put, List.setIfInBounds_toArray, List.set_cons_zero, List.set_cons_succ]
          refine wpAnyH_take (i := 6) (v := ?_) rfl (by kernel_rfl) (by kernel_rfl) (by kernel_rfl) (fun _ _ _ h => h) (Or.inl ⟨by kernel_rfl, ?_⟩) (by assumption) ?_
          rotate_left
          · (intro w hSw; (try dsimp only at hSw); (try go_split_ands); go_simp; (try with_reducible rfl))
          try simp only [Act.put, List.setIfInBounds_toArray, List.set_cons_zero, List.set_cons_succ]
          refine wpAnyH_take (i := 7) (v := ?_) rfl (by kernel_rfl) (by kernel_rfl) (by kernel_rfl) (fun _ _ _ h => h) (Or.inl ⟨by kernel_rfl, ?_⟩) (by assumption) ?_
          rotate_left
          · (intro w hSw; (try dsimp only at hSw); (try go_split_ands); go_simp; (try with_reducible rfl))
          try simp only [Act.put, List.setIfInBounds_toArray, List.set_cons_zero, List.set_cons_succ]
          refine wpAnyH_take (i := 8) (v := ?_) rfl (by kernel_rfl) (by kernel_rfl) (by kernel_rfl) (fun _ _ _ h => h) (Or.inl ⟨by kernel_rfl, ?_⟩) (by assumption) ?_
          rotate_left
          · (intro w hSw; (try dsimp only at hSw); (try go_split_ands); go_simp; (try with_reducible rfl))
          try simp only [Act.put, List.setIfInBounds_toArray, List.set_cons_zero, List.set_cons_succ]
          refine wpAnyH_take (i := 9) (v := ?_) rfl (by kernel_rfl) (by kernel_rfl) (by kernel_rfl) (fun _ _ _ h => h) (Or.inl ⟨by kernel_rfl, ?_⟩) (by assumption) ?_
          rotate_left
          · (intro w hSw; (try dsimp only at hSw); (try go_split_ands); go_simp; (try with_reducible rfl))
          try simp only [Act.put, List.setIfInBounds_toArray, List.set_cons_zero, List.set_cons_succ]
          refine wpAnyH_take (i := 10) (v := ?_) rfl (by kernel_rfl) (by kernel_rfl) (by kernel_rfl) (fun _ _ _ h => h) (Or.inl ⟨by kernel_rfl, ?_⟩) (by assumption) ?_
          rotate_left
          · (intro w hSw; (try dsimp only at hSw); (try go_split_ands); go_simp; (try with_reducible rfl))
          try simp only [Act.put, List.setIfInBounds_toArray, List.set_cons_zero, List.set_cons_succ]
          refine wpAnyH_take (i := 11) (v := ?_) rfl (by kernel_rfl) (by kernel_rfl) (by kernel_rfl) (fun _ _ _ h => h) (Or.inl ⟨by kernel_rfl, ?_⟩) (by assumption) ?_
          rotate_left
          · (intro w hSw; (try dsimp only at hSw); (try go_split_ands); go_simp; (try with_reducible rfl))
          try simp only [Act.put, List.setIfInBounds_toArray, List.set_cons_zero, List.set_cons_succ]
          refine wpAnyH_take (i := 12) (v := ?_) rfl (by kernel_rfl) (by kernel_rfl) (by kernel_rfl) (fun _ _ _ h => h) (Or.inl ⟨by kernel_rfl, ?_⟩) (by assumption) ?_
          rotate_left
          · (intro w hSw; (try dsimp only at hSw); (try go_split_ands); go_simp; (try with_reducible rfl))
          try simp only [Act.put, List.setIfInBounds_toArray, List.set_cons_zero, List.set_cons_succ]
          refine wpAnyH_take (i := 13) (v := ?_) rfl (by kernel_rfl) (by kernel_rfl) (by kernel_rfl) (fun _ _ _ h => h) (Or.inl ⟨by kernel_rfl, ?_⟩) (by assumption) ?_
          rotate_left
          · (intro w hSw; (try dsimp only at hSw); (try go_split_ands); go_simp; (try with_reducible rfl))
          try simp only [Act.put, List.setIfInBounds_toArray, List.set_cons_zero, List.set_cons_succ]
          refine wpAnyH_take (i := 14) (v := ?_) rfl (by kernel_rfl) (by kernel_rfl) (by kernel_rfl) (fun _ _ _ h => h) (Or.inl ⟨by kernel_rfl, ?_⟩) (by assumption) ?_
          rotate_left
          · (intro w hSw; (try dsimp only at hSw); (try go_split_ands); go_simp; (try with_reducible rfl))
          try simp only [Act.put, List.setIfInBounds_toArray, List.set_cons_zero, List.set_cons_succ]
          refine wpAnyH_take (i := 15) (v := ?_) rfl (by kernel_rfl) (by kernel_rfl) (by kernel_rfl) (fun _ _ _ h => h) (Or.inl ⟨by kernel_rfl, ?_⟩) (by assumption) ?_
          rotate_left
          · (intro w hSw; (try dsimp only at hSw); (try go_split_ands); go_simp; (try with_reducible rfl))
          try simp only [Act.put, List.setIfInBounds_toArray, List.set_cons_zero, List.set_cons_succ]
          refine wpAnyH_take (i := 16) (v := ?_) rfl (by kernel_rfl) (by kernel_rfl) (by kernel_rfl) (fun _ _ _ h => h) (Or.inl ⟨by kernel_rfl, ?_⟩) (by assumption) ?_
          rotate_left
          · (intro w hSw; (try dsimp only at hSw); (try go_split_ands); go_simp; (try with_reducible rfl))
          try simp only [Act.put, List.setIfInBounds_toArray, List.set_cons_zero, List.set_cons_succ]
          refine wpAnyH_take (i := 17) (v := ?_) rfl (by kernel_rfl) (by kernel_rfl) (by kernel_rfl) (fun _ _ _ h => h) (Or.inl ⟨by kernel_rfl, ?_⟩) (by assumption) ?_
          rotate_left
          · (intro w hSw; (try dsimp only at hSw); (try go_split_ands); go_simp; (try with_reducible rfl))
          try simp only [Act.put, List.setIfInBounds_toArray, List.set_cons_zero, List.set_cons_succ]
          refine wpAnyH_take (i := 18) (v := ?_) rfl (by kernel_rfl) (by kernel_rfl) (by kernel_rfl) (fun _ _ _ h => h) (Or.inl ⟨by kernel_rfl, ?_⟩) (by assumption) ?_
          rotate_left
          · (intro w hSw; (try dsimp only at hSw); (try go_split_ands); go_simp; (try with_reducible rfl))
          try simp only [Act.put, List.setIfInBounds_toArray, List.set_cons_zero, List.set_cons_succ]
          refine wpAnyH_take (i := 19) (v := ?_) rfl (by kernel_rfl) (by kernel_rfl) (by kernel_rfl) (fun _ _ _ h => h) (Or.inl ⟨by kernel_rfl, ?_⟩) (by assumption) ?_
          rotate_left
          · (intro w hSw; (try dsimp only at hSw); (try go_split_ands); go_simp; (try with_reducible rfl))
          try simp only [Act.put, List.setIfInBounds_toArray, List.set_cons_zero, List.set_cons_succ]
          refine wpAnyH_take (i := 20) (v := ?_) rfl (by kernel_rfl) (by kernel_rfl) (by kernel_rfl) (fun _ _ _ h => h) (Or.inl ⟨by kernel_rfl, ?_⟩) (by assumption) ?_
          rotate_left
          · (intro w hSw; (try dsimp only at hSw); (try go_split_ands); go_simp; (try with_reducible rfl))
          try simp only [Act.put, List.setIfInBounds_toArray, List.set_cons_zero, List.set_cons_succ]
          refine wpAnyH_take (i := 21) (v := ?_) rfl (by kernel_rfl) (by kernel_rfl) (by kernel_rfl) (fun _ _ _ h => h) (Or.inl ⟨by kernel_rfl, ?_⟩) (by assumption) ?_
          rotate_left
          · (intro w hSw; (try dsimp only at hSw); (try go_split_ands); go_simp; (try with_reducible rfl))
          try simp only [Act.put, List.setIfInBounds_toArray, List.set_cons_zero, List.set_cons_succ]
          refine wpAnyH_take (i := 22) (v := ?_) rfl (by kernel_rfl) (by kernel_rfl) (by kernel_rfl) (fun _ _ _ h => h) (Or.inl ⟨by kernel_rfl, ?_⟩) (by assumption) ?_
          rotate_left
          · (intro w hSw; (try dsimp only at hSw); (try go_split_ands); go_simp; (try with_reducible rfl))
          try simp only [Act.put, List.setIfInBounds_toArray, List.set_cons_zero, List.set_cons_succ]
          refine wpAnyH_take (i := 23) (v := ?_) rfl (by kernel_rfl) (by kernel_rfl) (by kernel_rfl) (fun _ _ _ h => h) (Or.inl ⟨by kernel_rfl, ?_⟩) (by assumption) ?_
          rotate_left
          · (intro w hSw; (try dsimp only at hSw); (try go_split_ands); go_simp; (try with_reducible rfl))
          try simp only [Act.put, List.setIfInBounds_toArray, List.set_cons_zero, List.set_cons_succ]
          refine wpAnyH_take (i := 24) (v := ?_) rfl (by kernel_rfl) (by kernel_rfl) (by kernel_rfl) (fun _ _ _ h => h) (Or.inl ⟨by kernel_rfl, ?_⟩) (by assumption) ?_
          rotate_left
          · (intro w hSw; (try dsimp only at hSw); (try go_split_ands); go_simp; (try with_reducible rfl))
          try simp only [Act.put, List.setIfInBounds_toArray, List.set_cons_zero, List.set_cons_succ]
          refine wpAnyH_take (i := 25) (v := ?_) rfl (by kernel_rfl) (by kernel_rfl) (by kernel_rfl) (fun _ _ _ h => h) (Or.inl ⟨by kernel_rfl, ?_⟩) (by assumption) ?_
          rotate_left
          · (intro w hSw; (try dsimp only at hSw); (try go_split_ands); go_simp; (try with_reducible rfl))
          try simp only [Act.put, List.setIfInBounds_toArray, List.set_cons_zero, List.set_cons_succ]
          refine wpAnyH_take (i := 26) (v := ?_) rfl (by kernel_rfl) (by kernel_rfl) (by kernel_rfl) (fun _ _ _ h => h) (Or.inl ⟨by kernel_rfl, ?_⟩) (by assumption) ?_
          rotate_left
          · (intro w hSw; (try dsimp only at hSw); (try go_split_ands); go_simp; (try with_reducible rfl))
          try simp only [Act.put, List.setIfInBounds_toArray, List.set_cons_zero, List.set_cons_succ]
          refine wpAnyH_take (i := 27) (v := ?_) rfl (by kernel_rfl) (by kernel_rfl) (by kernel_rfl) (fun _ _ _ h => h) (Or.inl ⟨by kernel_rfl, ?_⟩) (by assumption) ?_
          rotate_left
          · (intro w hSw; (try dsimp only at hSw); (try go_split_ands); go_simp; (try with_reducible rfl))
          try simp only [Act.put, List.setIfInBounds_toArray, List.set_cons_zero, List.set_cons_succ]
          refine wpAnyH_ready (rs := [28]) (by kernel_rfl) (by simp) ?_
          refine AllReadyH.cons rfl (fun K hK => ?_) AllReadyH.nil
          go_simp
          refine (P3.out _ K_2.out).mono ?_
          rintro e w4 ⟨rfl, hb4⟩
          have K_3 := Lib.hid (K_2.out.trans (hb4.mono K_2.out.size))
          clear hb4
          refine hK.out _ _ (LIM.out _ K_3.out) (fun hHeld => ?_)
          clear hK K
          try simp only [Act.put, List.setIfInBounds_toArray, List.set_cons_zero, List.set_cons_succ]
          refine wpAnyH_take (i := 29) (v := ?_) rfl (by kernel_rfl) (by kernel_rfl) (by kernel_rfl) (fun _ _ _ h => h) (Or.inl ⟨by kernel_rfl, ?_⟩) (by assumption) ?_
          rotate_left
          · (intro w hSw; (try dsimp only at hSw); (try go_split_ands); go_simp; (try with_reducible rfl))
          try simp only [Act.put, List.setIfInBounds_toArray, List.set_cons_zero, List.set_cons_succ]
          refine wpAnyH_take (i := 30) (v := ?_) rfl (by kernel_rfl) (by kernel_rfl) (by kernel_rfl) (fun _ _ _ h => h) (Or.inl ⟨by kernel_rfl, ?_⟩) (by assumption) ?_
          rotate_left
          · (intro w hSw; (try dsimp only at hSw); (try go_split_ands); go_simp; (try with_reducible rfl))
          try simp only [Act.put, List.setIfInBounds_toArray, List.set_cons_zero, List.set_cons_succ]
          refine wpAnyH_done (by kernel_rfl) ?_ _
          go_wp2_with fail
          go_ret
          exact ⟨rfl, HOLD.out.trans (K_3.out.mono HOLD.out.size)⟩
      · clear hres
        cases e2 : (f.toList == [100, 97, 121])
        · have e2n : (f.toList != [100, 97, 121]) = true := by simpa [bne] using e2
          clear hday
          refine wp_region_held_drew (S := fun W => W.cell? ⟨q, 0, none⟩ = some (.string s.resp) ∧ W.cell? ⟨q, 1, none⟩ = some (.int .i64 s.dep) ∧ W.cell? ⟨q, 2, none⟩ = some (.int .i64 s.day) ∧ W.cell? ⟨q, 3, none⟩ = some (.slice A1 n1 c1) ∧ W.cell? ⟨q, 4, none⟩ = some (.slice A2 n2 c2) ∧ W.cell? ⟨q, 5, none⟩ = some (.slice A3 n3 c3) ∧ W.cell? ⟨p20, 0, none⟩ = some (.string u.resp) ∧ W.cell? ⟨p20, 1, none⟩ = some (.int .i64 u.dep) ∧ W.cell? ⟨p20, 2, none⟩ = some (.int .i64 u.day) ∧ W.cell? ⟨p20, 3, none⟩ = some (.slice Ac nc cc) ∧ W.cell? ⟨p20, 4, none⟩ = some (.slice none 0 0) ∧ W.cell? ⟨p20, 5, none⟩ = some (.slice none 0 0) ∧ W.cell? ⟨p9, 0, none⟩ = some (.string ra) ∧ W.cell? ⟨p10, 0, none⟩ = some (.string rb) ∧ W.cell? ⟨p10, 2, none⟩ = some (.int .i64 db)) (by kernel_rfl) (LIM.out _ K_0.out) (fun hHeld => ?_)
          refine wpAnyH_take (i := 0) (v := ?_) rfl (by kernel_rfl) (by kernel_rfl) (by kernel_rfl) (fun _ _ _ h => h) (Or.inl ⟨by kernel_rfl, ?_⟩) (by assumption) ?_
          rotate_left
          · (intro w hSw; (try dsimp only at hSw); (try go_split_ands); go_simp; (try with_reducible rfl))
          try simp only [Act.put, List.setIfInBounds_toArray, List.set_cons_zero, List.set_cons_succ]
          refine wpAnyH_take (i := 1) (v := ?_) rfl (by kernel_rfl) (by kernel_rfl) (by kernel_rfl) (fun _ _ _ h => h) (Or.inl ⟨by kernel_rfl, ?_⟩) (by assumption) ?_
          rotate_left
          · (intro w hSw; (try dsimp only at hSw); (try go_split_ands); go_simp; (try with_reducible rfl))
          try simp only [Act.put, List.setIfInBounds_toArray, List.set_cons_zero, List.set_cons_succ]
          refine wpAnyH_ready (rs := [2]) (by kernel_rfl) (by simp) ?_
          refine AllReadyH.cons rfl (fun K hK => ?_) AllReadyH.nil
          go_simp
          refine (P1.out _ K_0.out).mono ?_
          rintro e w2 ⟨Ad, nd, cd, rfl, hb2, hsm⟩
          have K_1 := Lib.hid hb2
          have P2 := Lib.hid hsm
          clear hb2 hsm
          refine hK.out _ _ (LIM.out _ K_1.out) (fun hHeld => ?_)
          clear hK K
          try simp only [Act.put, List.setIfInBounds_toArray, List.set_cons_zero, List.set_cons_succ]
          refine wpAnyH_ready (rs := [3]) (by kernel_rfl) (by simp) ?_
          refine AllReadyH.cons rfl (fun K hK => ?_) AllReadyH.nil
          go_simp
          refine (P2.out).mono ?_
          rintro e w3 ⟨bs, rfl, hbs, hb3⟩
          obtain rfl : bs = true := hbs.2 (by trivial)
          have K_2 := Lib.hid (K_1.out.trans (hb3.mono K_1.out.size))
          clear hb3 hbs
          refine hK.out _ _ (LIM.out _ K_2.out) (fun hHeld => ?_)
          clear hK K
          try simp only [Act.put, List.setIfInBounds_toArray, List.set_cons_zero, List.set_cons_succ]
          refine wpAnyH_take (i := 4) (v := ?_) rfl (by kernel_rfl) (by kernel_rfl) (by kernel_rfl) (fun _ _ _ h => h) (Or.inl ⟨by kernel_rfl, ?_⟩) (by assumption) ?_
          rotate_left
          · (intro w hSw; (try dsimp only at hSw); (try go_split_ands); go_simp; (try with_reducible rfl))
          try simp only [Act.put, List.setIfInBounds_toArray, List.set_cons_zero, List.set_cons_succ]
          refine wpAnyH_take (i := 5) (v := ?_) rfl (by kernel_rfl) (by kernel_rfl) (by kernel_rfl) (fun _ _ _ h => h) (Or.inl ⟨by kernel_rfl, ?_⟩) (by assumption) ?_
          rotate_left
          · (intro w hSw; (try dsimp only at hSw); (try go_split_ands); go_simp; (try with_reducible rfl))
          try simp only [Act.put, List.setIfInBounds_toArray, List.set_cons_zero, List.set_cons_succ]
          refine wpAnyH_take (i := 6) (v := ?_) rfl (by kernel_rfl) (by kernel_rfl) (by kernel_rfl) (fun _ _ _ h => h) (Or.inl ⟨by kernel_rfl, ?_⟩) (by assumption) ?_
          rotate_left
          · (intro w hSw; (try dsimp only at hSw); (try go_split_ands); go_simp; (try with_reducible rfl))
          try simp only [Act.put, List.setIfInBounds_toArray, List.set_cons_zero, List.set_cons_succ]
          refine wpAnyH_take (i := 7) (v := ?_) rfl (by kernel_rfl) (by kernel_rfl) (by kernel_rfl) (fun _ _ _ h => h) (Or.inl ⟨by kernel_rfl, ?_⟩) (by assumption) ?_
          rotate_left
          · (intro w hSw; (try dsimp only at hSw); (try go_split_ands); go_simp; (try with_reducible rfl))
          try simp only [Act.put, List.setIfInBounds_toArray, List.set_cons_zero, List.set_cons_succ]
          refine wpAnyH_take (i := 8) (v := ?_) rfl (by kernel_rfl) (by kernel_rfl) (by kernel_rfl) (fun _ _ _ h => h) (Or.inl ⟨by kernel_rfl, ?_⟩) (by assumption) ?_
          rotate_left
          · (intro w hSw; (try dsimp only at hSw); (try go_split_ands); go_simp; (try with_reducible rfl))
          try simp only [Act.put, List.setIfInBounds_toArray, List.set_cons_zero, List.set_cons_succ]
          refine wpAnyH_take (i := 9) (v := undef) rfl (by kernel_rfl) (by kernel_rfl) (by kernel_rfl) (fun _ _ _ h => h) (Or.inr ⟨by kernel_rfl, rfl⟩) (by assumption) ?_
          try simp only [Act.put, List.setIfInBounds_toArray, List.set_cons_zero, List.set_cons_succ]
          refine wpAnyH_take (i := 10) (v := undef) rfl (by kernel_rfl) (by kernel_rfl) (by kernel_rfl) (fun _ _ _ h => h) (Or.inr ⟨by kernel_rfl, rfl⟩) (by assumption) ?_
          try simp only [Act.put, List.setIfInBounds_toArray, List.set_cons_zero, List.set_cons_succ]
          refine wpAnyH_take (i := 11) (v := undef) rfl (by kernel_rfl) (by kernel_rfl) (by kernel_rfl) (fun _ _ _ h => h) (Or.inr ⟨by kernel_rfl, rfl⟩) (by assumption) ?_
          try simp only [Act.put, List.setIfInBounds_toArray, List.set_cons_zero, List.set_cons_succ]
          refine wpAnyH_take (i := 12) (v := undef) rfl (by kernel_rfl) (by kernel_rfl) (by kernel_rfl) (fun _ _ _ h => h) (Or.inr ⟨by kernel_rfl, rfl⟩) (by assumption) ?_
          try simp only [Act.put, List.setIfInBounds_toArray, List.set_cons_zero, List.set_cons_succ]
          refine wpAnyH_take (i := 13) (v := undef) rfl (by kernel_rfl) (by kernel_rfl) (by kernel_rfl) (fun _ _ _ h => h) (Or.inr ⟨by kernel_rfl, rfl⟩) (by assumption) ?_
          try simp only [Act.put, List.setIfInBounds_toArray, List.set_cons_zero, List.set_cons_succ]
          refine wpAnyH_take (i := 14) (v := ?_) rfl (by kernel_rfl) (by kernel_rfl) (by kernel_rfl) (fun _ _ _ h => h) (Or.inl ⟨by kernel_rfl, ?_⟩) (by assumption) ?_
          rotate_left
          · (intro w hSw; (try dsimp only at hSw); (try go_split_ands); go_simp; (try with_reducible rfl))
          try simp only [Act.put, List.setIfInBounds_toArray, List.set_cons_zero, List.set_cons_succ]
          refine wpAnyH_take (i := 15) (v := ?_) rfl (by kernel_rfl) (by kernel_rfl) (by kernel_rfl) (fun _ _ _ h => h) (Or.inl ⟨by kernel_rfl, ?_⟩) (by assumption) ?_
          rotate_left
          · (intro w hSw; (try dsimp only at hSw); (try go_split_ands); go_simp; (try with_reducible rfl))
          try simp only [Act.put, List.setIfInBounds_toArray, List.set_cons_zero, List.set_cons_succ]
          refine wpAnyH_take (i := 16) (v := ?_) rfl (by kernel_rfl) (by kernel_rfl) (by kernel_rfl) (fun _ _ _ h => h) (Or.inl ⟨by kernel_rfl, ?_⟩) (by assumption) ?_
          rotate_left
          · (intro w hSw; (try dsimp only at hSw); (try go_split_ands); go_simp; (try with_reducible rfl))
          try simp only [Act.put, List.setIfInBounds_toArray, List.set_cons_zero, List.set_cons_succ]
          refine wpAnyH_take (i := 17) (v := ?_) rfl (by kernel_rfl) (by kernel_rfl) (by kernel_rfl) (fun _ _ _ h => h) (Or.inl ⟨by kernel_rfl, ?_⟩) (by assumption) ?_
          rotate_left
          · (intro w hSw; (try dsimp only at hSw); (try go_split_ands); go_simp; (try with_reducible rfl))
          try simp only [Act.put, List.setIfInBounds_toArray, List.set_cons_zero, List.set_cons_succ]
          refine wpAnyH_take (i := 18) (v := ?_) rfl (by kernel_rfl) (by kernel_rfl) (by kernel_rfl) (fun _ _ _ h => h) (Or.inl ⟨by kernel_rfl, ?_⟩) (by assumption) ?_
          rotate_left
          · (intro w hSw; (try dsimp only at hSw); (try go_split_ands); go_simp; (try with_reducible rfl))
          try simp only [Act.put, List.setIfInBounds_toArray, List.set_cons_zero, List.set_cons_succ]
          refine wpAnyH_take (i := 19) (v := ?_) rfl (by kernel_rfl) (by kernel_rfl) (by kernel_rfl) (fun _ _ _ h => h) (Or.inl ⟨by kernel_rfl, ?_⟩) (by assumption) ?_
          rotate_left
          · (intro w hSw; (try dsimp only at hSw); (try go_split_ands); go_simp; (try with_reducible rfl))
          try simp only [Act.put, List.setIfInBounds_toArray, List.set_cons_zero, List.set_cons_succ]
          refine wpAnyH_take (i := 20) (v := undef) rfl (by kernel_rfl) (by kernel_rfl) (by kernel_rfl) (fun _ _ _ h => h) (Or.inr ⟨by kernel_rfl, rfl⟩) (by assumption) ?_
          try simp only [Act.put, List.setIfInBounds_toArray, List.set_cons_zero, List.set_cons_succ]
          refine wpAnyH_take (i := 21) (v := undef) rfl (by kernel_rfl) (by kernel_rfl) (by kernel_rfl) (fun _ _ _ h => h) (Or.inr ⟨by kernel_rfl, rfl⟩) (by assumption) ?_
          try simp only [Act.put, List.setIfInBounds_toArray, List.set_cons_zero, List.set_cons_succ]
          refine wpAnyH_take (i := 22) (v := undef) rfl (by kernel_rfl) (by kernel_rfl) (by kernel_rfl) (fun _ _ _ h => h) (Or.inr ⟨by kernel_rfl, rfl⟩) (by assumption) ?_
          try simp only [Act.put, List.setIfInBounds_toArray, List.set_cons_zero, List.set_cons_succ]
          refine wpAnyH_take (i := 23) (v := undef) rfl (by kernel_rfl) (by kernel_rfl) (by kernel_rfl) (fun _ _ _ h => h) (Or.inr ⟨by kernel_rfl, rfl⟩) (by assumption) ?_
          try simp only [Act.put, List.setIfInBounds_toArray, List.set_cons_zero, List.set_cons_succ]
          refine wpAnyH_take (i := 24) (v := undef) rfl (by kernel_rfl) (by kernel_rfl) (by kernel_rfl) (fun _ _ _ h => h) (Or.inr ⟨by kernel_rfl, rfl⟩) (by assumption) ?_
          try simp only [Act.put, List.setIfInBounds_toArray, List.set_cons_zero, List.set_cons_succ]
          refine wpAnyH_take (i := 25) (v := ?_) rfl (by kernel_rfl) (by kernel_rfl) (by kernel_rfl) (fun _ _ _ h => h) (Or.inl ⟨by kernel_rfl, ?_⟩) (by assumption) ?_
          rotate_left
          · (intro w hSw; (try dsimp only at hSw); (try go_split_ands); go_simp; (try with_reducible rfl))
          try simp only [Act.put, List.setIfInBounds_toArray, List.set_cons_zero, List.set_cons_succ]
          refine wpAnyH_take (i := 26) (v := ?_) rfl (by kernel_rfl) (by kernel_rfl) (by kernel_rfl) (fun _ _ _ h => h) (Or.inl ⟨by kernel_rfl, ?_⟩) (by assumption) ?_
          rotate_left
          · (intro w hSw; (try dsimp only at hSw); (try go_split_ands); go_simp; (try with_reducible rfl))
          try simp only [Act.put, List.setIfInBounds_toArray, List.set_cons_zero, List.set_cons_succ]
          refine wpAnyH_take (i := 27) (v := ?_) rfl (by kernel_rfl) (by kernel_rfl) (by kernel_rfl) (fun _ _ _ h => h) (Or.inl ⟨by kernel_rfl, ?_⟩) (by assumption) ?_
          rotate_left
          · (intro w hSw; (try dsimp only at hSw); (try go_split_ands); go_simp; (try with_reducible rfl))
          try simp only [Act.put, List.setIfInBounds_toArray, List.set_cons_zero, List.set_cons_succ]
          refine wpAnyH_ready (rs := [28]) (by kernel_rfl) (by simp) ?_
          refine AllReadyH.cons rfl (fun K hK => ?_) AllReadyH.nil
          go_simp
          refine (P3.out _ K_2.out).mono ?_
          rintro e w4 ⟨rfl, hb4⟩
          have K_3 := Lib.hid (K_2.out.trans (hb4.mono K_2.out.size))
          clear hb4
          refine hK.out _ _ (LIM.out _ K_3.out) (fun hHeld => ?_)
          clear hK K
          try simp only [Act.put, List.setIfInBounds_toArray, List.set_cons_zero, List.set_cons_succ]
          refine wpAnyH_take (i := 29) (v := ?_) rfl (by kernel_rfl) (by kernel_rfl) (by kernel_rfl) (fun _ _ _ h => h) (Or.inl ⟨by kernel_rfl, ?_⟩) (by assumption) ?_
          rotate_left
          · (intro w hSw; (try dsimp only at hSw); (try go_split_ands); go_simp; (try with_reducible rfl))
          try simp only [Act.put, List.setIfInBounds_toArray, List.set_cons_zero, List.set_cons_succ]
          refine wpAnyH_take (i := 30) (v := ?_) rfl (by kernel_rfl) (by kernel_rfl) (by kernel_rfl) (fun _ _ _ h => h) (Or.inl ⟨by kernel_rfl, ?_⟩) (by assumption) ?_
          rotate_left
          · (intro w hSw; (try dsimp only at hSw); (try go_split_ands); go_simp; (try with_reducible rfl))
          try simp only [Act.put, List.setIfInBounds_toArray, List.set_cons_zero, List.set_cons_succ]
          refine wpAnyH_done (by kernel_rfl) ?_ _
          go_wp2_with fail
          go_ret
          exact ⟨rfl, HOLD.out.trans (K_3.out.mono HOLD.out.size)⟩
        · have e2n : (f.toList != [100, 97, 121]) = false := by simpa [bne] using e2
          have hfd : f = dayB := by
            have h : (f.toList == dayB.toList) = true := by rw [show dayB.toList = [100, 97, 121] from by rw [ByteArray.toList_eq]; rfl]; exact e2
            exact (bytes_of h).symm
          obtain rfl : db = s.day := hday hfd
          clear hday hfd
          refine wp_region_held_drew (S := fun W => W.cell? ⟨q, 0, none⟩ = some (.string s.resp) ∧ W.cell? ⟨q, 1, none⟩ = some (.int .i64 s.dep) ∧ W.cell? ⟨q, 2, none⟩ = some (.int .i64 s.day) ∧ W.cell? ⟨q, 3, none⟩ = some (.slice A1 n1 c1) ∧ W.cell? ⟨q, 4, none⟩ = some (.slice A2 n2 c2) ∧ W.cell? ⟨q, 5, none⟩ = some (.slice A3 n3 c3) ∧ W.cell? ⟨p20, 0, none⟩ = some (.string u.resp) ∧ W.cell? ⟨p20, 1, none⟩ = some (.int .i64 u.dep) ∧ W.cell? ⟨p20, 2, none⟩ = some (.int .i64 u.day) ∧ W.cell? ⟨p20, 3, none⟩ = some (.slice Ac nc cc) ∧ W.cell? ⟨p20, 4, none⟩ = some (.slice none 0 0) ∧ W.cell? ⟨p20, 5, none⟩ = some (.slice none 0 0) ∧ W.cell? ⟨p9, 0, none⟩ = some (.string ra) ∧ W.cell? ⟨p10, 0, none⟩ = some (.string rb) ∧ W.cell? ⟨p10, 2, none⟩ = some (.int .i64 s.day)) (by kernel_rfl) (LIM.out _ K_0.out) (fun hHeld => ?_)
          refine wpAnyH_take (i := 0) (v := ?_) rfl (by kernel_rfl) (by kernel_rfl) (by kernel_rfl) (fun _ _ _ h => h) (Or.inl ⟨by kernel_rfl, ?_⟩) (by assumption) ?_
          rotate_left
          · (intro w hSw; (try dsimp only at hSw); (try go_split_ands); go_simp; (try with_reducible rfl))
          try simp only [Act.put, List.setIfInBounds_toArray, List.set_cons_zero, List.set_cons_succ]
          refine wpAnyH_take (i := 1) (v := ?_) rfl (by kernel_rfl) (by kernel_rfl) (by kernel_rfl) (fun _ _ _ h => h) (Or.inl ⟨by kernel_rfl, ?_⟩) (by assumption) ?_
          rotate_left
          · (intro w hSw; (try dsimp only at hSw); (try go_split_ands); go_simp; (try with_reducible rfl))
          try simp only [Act.put, List.setIfInBounds_toArray, List.set_cons_zero, List.set_cons_succ]
          refine wpAnyH_ready (rs := [2]) (by kernel_rfl) (by simp) ?_
          refine AllReadyH.cons rfl (fun K hK => ?_) AllReadyH.nil
          go_simp
          refine (P1.out _ K_0.out).mono ?_
          rintro e w2 ⟨Ad, nd, cd, rfl, hb2, hsm⟩
          have K_1 := Lib.hid hb2
          have P2 := Lib.hid hsm
          clear hb2 hsm
          refine hK.out _ _ (LIM.out _ K_1.out) (fun hHeld => ?_)
          clear hK K
          try simp only [Act.put, List.setIfInBounds_toArray, List.set_cons_zero, List.set_cons_succ]
          refine wpAnyH_ready (rs := [3]) (by kernel_rfl) (by simp) ?_
          refine AllReadyH.cons rfl (fun K hK => ?_) AllReadyH.nil
          go_simp
          refine (P2.out).mono ?_
          rintro e w3 ⟨bs, rfl, hbs, hb3⟩
          obtain rfl : bs = true := hbs.2 (by trivial)
          have K_2 := Lib.hid (K_1.out.trans (hb3.mono K_1.out.size))
          clear hb3 hbs
          refine hK.out _ _ (LIM.out _ K_2.out) (fun hHeld => ?_)
          clear hK K
          try simp only [Act.put, List.setIfInBounds_toArray, List.set_cons_zero, List.set_cons_succ]
          refine wpAnyH_take (i := 4) (v := ?_) rfl (by kernel_rfl) (by kernel_rfl) (by kernel_rfl) (fun _ _ _ h => h) (Or.inl ⟨by kernel_rfl, ?_⟩) (by assumption) ?_
          rotate_left
          · (intro w hSw; (try dsimp only at hSw); (try go_split_ands); go_simp; (try with_reducible rfl))
          try simp only [Act.put, List.setIfInBounds_toArray, List.set_cons_zero, List.set_cons_succ]
          refine wpAnyH_take (i := 5) (v := ?_) rfl (by kernel_rfl) (by kernel_rfl) (by kernel_rfl) (fun _ _ _ h => h) (Or.inl ⟨by kernel_rfl, ?_⟩) (by assumption) ?_
          rotate_left
          · (intro w hSw; (try dsimp only at hSw); (try go_split_ands); go_simp; (try with_reducible rfl))
          try simp only [Act.put, List.setIfInBounds_toArray, List.set_cons_zero, List.set_cons_succ]
          refine wpAnyH_take (i := 6) (v := ?_) rfl (by kernel_rfl) (by kernel_rfl) (by kernel_rfl) (fun _ _ _ h => h) (Or.inl ⟨by kernel_rfl, ?_⟩) (by assumption) ?_
          rotate_left
          · (intro w hSw; (try dsimp only at hSw); (try go_split_ands); go_simp; (try with_reducible rfl))
          try simp only [Act.put, List.setIfInBounds_toArray, List.set_cons_zero, List.set_cons_succ]
          refine wpAnyH_take (i := 7) (v := ?_) rfl (by kernel_rfl) (by kernel_rfl) (by kernel_rfl) (fun _ _ _ h => h) (Or.inl ⟨by kernel_rfl, ?_⟩) (by assumption) ?_
          rotate_left
          · (intro w hSw; (try dsimp only at hSw); (try go_split_ands); go_simp; (try with_reducible rfl))
          try simp only [Act.put, List.setIfInBounds_toArray, List.set_cons_zero, List.set_cons_succ]
          refine wpAnyH_take (i := 8) (v := ?_) rfl (by kernel_rfl) (by kernel_rfl) (by kernel_rfl) (fun _ _ _ h => h) (Or.inl ⟨by kernel_rfl, ?_⟩) (by assumption) ?_
          rotate_left
          · (intro w hSw; (try dsimp only at hSw); (try go_split_ands); go_simp; (try with_reducible rfl))
          try simp only [Act.put, List.setIfInBounds_toArray, List.set_cons_zero, List.set_cons_succ]
          refine wpAnyH_take (i := 9) (v := undef) rfl (by kernel_rfl) (by kernel_rfl) (by kernel_rfl) (fun _ _ _ h => h) (Or.inr ⟨by kernel_rfl, rfl⟩) (by assumption) ?_
          try simp only [Act.put, List.setIfInBounds_toArray, List.set_cons_zero, List.set_cons_succ]
          refine wpAnyH_take (i := 10) (v := undef) rfl (by kernel_rfl) (by kernel_rfl) (by kernel_rfl) (fun _ _ _ h => h) (Or.inr ⟨by kernel_rfl, rfl⟩) (by assumption) ?_
          try simp only [Act.put, List.setIfInBounds_toArray, List.set_cons_zero, List.set_cons_succ]
          refine wpAnyH_take (i := 11) (v := undef) rfl (by kernel_rfl) (by kernel_rfl) (by kernel_rfl) (fun _ _ _ h => h) (Or.inr ⟨by kernel_rfl, rfl⟩) (by assumption) ?_
          try simp only [Act.put, List.setIfInBounds_toArray, List.set_cons_zero, List.set_cons_succ]
          refine wpAnyH_take (i := 12) (v := undef) rfl (by kernel_rfl) (by kernel_rfl) (by kernel_rfl) (fun _ _ _ h => h) (Or.inr ⟨by kernel_rfl, rfl⟩) (by assumption) ?_
          try simp only [Act.put, List.setIfInBounds_toArray, List.set_cons_zero, List.set_cons_succ]
          refine wpAnyH_take (i := 13) (v := undef) rfl (by kernel_rfl) (by kernel_rfl) (by kernel_rfl) (fun _ _ _ h => h) (Or.inr ⟨by kernel_rfl, rfl⟩) (by assumption) ?_
          try simp only [Act.put, List.setIfInBounds_toArray, List.set_cons_zero, List.set_cons_succ]
          refine wpAnyH_take (i := 14) (v := ?_) rfl (by kernel_rfl) (by kernel_rfl) (by kernel_rfl) (fun _ _ _ h => h) (Or.inl ⟨by kernel_rfl, ?_⟩) (by assumption) ?_
          rotate_left
          · (intro w hSw; (try dsimp only at hSw); (try go_split_ands); go_simp; (try with_reducible rfl))
          try simp only [Act.put, List.setIfInBounds_toArray, List.set_cons_zero, List.set_cons_succ]
          refine wpAnyH_take (i := 15) (v := ?_) rfl (by kernel_rfl) (by kernel_rfl) (by kernel_rfl) (fun _ _ _ h => h) (Or.inl ⟨by kernel_rfl, ?_⟩) (by assumption) ?_
          rotate_left
          · (intro w hSw; (try dsimp only at hSw); (try go_split_ands); go_simp; (try with_reducible rfl))
          try simp only [Act.put, List.setIfInBounds_toArray, List.set_cons_zero, List.set_cons_succ]
          refine wpAnyH_take (i := 16) (v := ?_) rfl (by kernel_rfl) (by kernel_rfl) (by kernel_rfl) (fun _ _ _ h => h) (Or.inl ⟨by kernel_rfl, ?_⟩) (by assumption) ?_
          rotate_left
          · (intro w hSw; (try dsimp only at hSw); (try go_split_ands); go_simp; (try with_reducible rfl))
          try simp only [Act.put, List.setIfInBounds_toArray, List.set_cons_zero, List.set_cons_succ]
          refine wpAnyH_take (i := 17) (v := ?_) rfl (by kernel_rfl) (by kernel_rfl) (by kernel_rfl) (fun _ _ _ h => h) (Or.inl ⟨by kernel_rfl, ?_⟩) (by assumption) ?_
          rotate_left
          · (intro w hSw; (try dsimp only at hSw); (try go_split_ands); go_simp; (try with_reducible rfl))
          try simp only [Act.put, List.setIfInBounds_toArray, List.set_cons_zero, List.set_cons_succ]
          refine wpAnyH_take (i := 18) (v := ?_) rfl (by kernel_rfl) (by kernel_rfl) (by kernel_rfl) (fun _ _ _ h => h) (Or.inl ⟨by kernel_rfl, ?_⟩) (by assumption) ?_
          rotate_left
          · (intro w hSw; (try dsimp only at hSw); (try go_split_ands); go_simp; (try with_reducible rfl))
          try simp only [Act.put, List.setIfInBounds_toArray, List.set_cons_zero, List.set_cons_succ]
          refine wpAnyH_take (i := 19) (v := ?_) rfl (by kernel_rfl) (by kernel_rfl) (by kernel_rfl) (fun _ _ _ h => h) (Or.inl ⟨by kernel_rfl, ?_⟩) (by assumption) ?_
          rotate_left
          · (intro w hSw; (try dsimp only at hSw); (try go_split_ands); go_simp; (try with_reducible rfl))
          try simp only [Act.put, List.setIfInBounds_toArray, List.set_cons_zero, List.set_cons_succ]
          refine wpAnyH_take (i := 20) (v := ?_) rfl (by kernel_rfl) (by kernel_rfl) (by kernel_rfl) (fun _ _ _ h => h) (Or.inl ⟨by kernel_rfl, ?_⟩) (by assumption) ?_
          rotate_left
          · (intro w hSw; (try dsimp only at hSw); (try go_split_ands); go_simp; (try with_reducible rfl))
          try simp only [Act.put, List.setIfInBounds_toArray, List.set_cons_zero, List.set_cons_succ]
          refine wpAnyH_take (i := 21) (v := ?_) rfl (by kernel_rfl) (by kernel_rfl) (by kernel_rfl) (fun _ _ _ h => h) (Or.inl ⟨by kernel_rfl, ?_⟩) (by assumption) ?_
          rotate_left
          · (intro w hSw; (try dsimp only at hSw); (try go_split_ands); go_simp; (try with_reducible rfl))
          try simp only [Act.put, List.setIfInBounds_toArray, List.set_cons_zero, List.set_cons_succ]
          refine wpAnyH_take (i := 22) (v := ?_) rfl (by kernel_rfl) (by kernel_rfl) (by kernel_rfl) (fun _ _ _ h => h) (Or.inl ⟨by kernel_rfl, ?_⟩) (by assumption) ?_
          rotate_left
          · (intro w hSw; (try dsimp only at hSw); (try go_split_ands); go_simp; (try with_reducible rfl))
          try simp only [Act.put, List.setIfInBounds_toArray, List.set_cons_zero, List.set_cons_succ]
          refine wpAnyH_take (i := 23) (v := ?_) rfl (by kernel_rfl) (by kernel_rfl) (by kernel_rfl) (fun _ _ _ h => h) (Or.inl ⟨by kernel_rfl, ?_⟩) (by assumption) ?_
          rotate_left
          · (intro w hSw; (try dsimp only at hSw); (try go_split_ands); go_simp; (try with_reducible rfl))
          try simp only [Act.put, List.setIfInBounds_toArray, List.set_cons_zero, List.set_cons_succ]
          refine wpAnyH_take (i := 24) (v := ?_) rfl (by kernel_rfl) (by kernel_rfl) (by kernel_rfl) (fun _ _ _ h => h) (Or.inl ⟨by kernel_rfl, ?_⟩) (by assumption) ?_
          rotate_left
          · (intro w hSw; (try dsimp only at hSw); (try go_split_ands); go_simp; (try with_reducible rfl))
          try simp only [Act.put, List.setIfInBounds_toArray, List.set_cons_zero, List.set_cons_succ]
          refine wpAnyH_take (i := 25) (v := ?_) rfl (by kernel_rfl) (by kernel_rfl) (by kernel_rfl) (fun _ _ _ h => h) (Or.inl ⟨by kernel_rfl, ?_⟩) (by assumption) ?_
          rotate_left
          · (intro w hSw; (try dsimp only at hSw); (try go_split_ands); go_simp; (try with_reducible rfl))
          try simp only [Act.put, List.setIfInBounds_toArray, List.set_cons_zero, List.set_cons_succ]
          refine wpAnyH_take (i := 26) (v := ?_) rfl (by kernel_rfl) (by kernel_rfl) (by kernel_rfl) (fun _ _ _ h => h) (Or.inl ⟨by kernel_rfl, ?_⟩) (by assumption) ?_
          rotate_left
          · (intro w hSw; (try dsimp only at hSw); (try go_split_ands); go_simp; (try with_reducible rfl))
          try simp only [Act.put, List.setIfInBounds_toArray, List.set_cons_zero, List.set_cons_succ]
          refine wpAnyH_take (i := 27) (v := ?_) rfl (by kernel_rfl) (by kernel_rfl) (by kernel_rfl) (fun _ _ _ h => h) (Or.inl ⟨by kernel_rfl, ?_⟩) (by assumption) ?_
          rotate_left
          · (intro w hSw; (try dsimp only at hSw); (try go_split_ands); go_simp; (try with_reducible rfl))
          try simp only [Act.put, List.setIfInBounds_toArray, List.set_cons_zero, List.set_cons_succ]
          refine wpAnyH_ready (rs := [28]) (by kernel_rfl) (by simp) ?_
          refine AllReadyH.cons rfl (fun K hK => ?_) AllReadyH.nil
          go_simp
          refine (P3.out _ K_2.out).mono ?_
          rintro e w4 ⟨rfl, hb4⟩
          have K_3 := Lib.hid (K_2.out.trans (hb4.mono K_2.out.size))
          clear hb4
          refine hK.out _ _ (LIM.out _ K_3.out) (fun hHeld => ?_)
          clear hK K
          try simp only [Act.put, List.setIfInBounds_toArray, List.set_cons_zero, List.set_cons_succ]
          refine wpAnyH_take (i := 29) (v := ?_) rfl (by kernel_rfl) (by kernel_rfl) (by kernel_rfl) (fun _ _ _ h => h) (Or.inl ⟨by kernel_rfl, ?_⟩) (by assumption) ?_
          rotate_left
          · (intro w hSw; (try dsimp only at hSw); (try go_split_ands); go_simp; (try with_reducible rfl))
          try simp only [Act.put, List.setIfInBounds_toArray, List.set_cons_zero, List.set_cons_succ]
          refine wpAnyH_take (i := 30) (v := ?_) rfl (by kernel_rfl) (by kernel_rfl) (by kernel_rfl) (fun _ _ _ h => h) (Or.inl ⟨by kernel_rfl, ?_⟩) (by assumption) ?_
          rotate_left
          · (intro w hSw; (try dsimp only at hSw); (try go_split_ands); go_simp; (try with_reducible rfl))
          try simp only [Act.put, List.setIfInBounds_toArray, List.set_cons_zero, List.set_cons_succ]
          refine wpAnyH_done (by kernel_rfl) ?_ _
          go_wp2_with fail
          go_ret
          exact ⟨rfl, HOLD.out.trans (K_3.out.mono HOLD.out.size)⟩
end Go.Proofs.YthibelndhcnifaaGreatDoor
