/- Contracts: the plays' Statement. -/
import Derived.Test.YtgeahbmaeaoeeaaGreatDoorQ26
import Derived.Test.YtgeahbmaeaoeeaaGreatDoorQ27
import Derived.Deep.CutRange
import Derived.Deep.CutBlock
set_option linter.unusedVariables false
set_option linter.unusedSimpArgs false
namespace Go.Proofs.YtgeahbmaeaoeeaaGreatDoor.Pa
open Go.RowKit Num

theorem infoAn : (Tryz.prog.info? 106).map (fun i => (i.zero, i.size, i.bytes)) = some (some (.agg #[.string ⟨#[]⟩, .string ⟨#[]⟩, .int .i64 0]), 3, 40) := by kernel_rfl
theorem infoSw : (Tryz.prog.info? 109).map (fun i => (i.zero, i.size, i.bytes)) = some (some (.agg #[.string ⟨#[]⟩, .string ⟨#[]⟩]), 2, 32) := by kernel_rfl
/-- One of some words, by the dice. -/
theorem k_WordP (P : ByteArray → Prop) (b g : Nat) (L : List ByteArray) (n : Nat) (w : World) (hd : Dc w b) (hne : g ≠ b) (hb : Blk w g 9 (L.map Value.string).toArray) (hn : L.length = n) (h1 : 1 ≤ n) (h2 : n ≤ 10) (hs : ∀ x ∈ L, P x) :
    Calls Tryz.prog 54 #[.pointer (some ⟨b, 0, none⟩), .slice (some ⟨g, 0, none⟩) n n] w fun e w' => ∃ x : ByteArray, P x ∧ e = .returned (.string x) ∧ Dc w' b ∧ w.grownBy w' (some b) := by
  refine (k_WordK b g 0 n n (fun i => L.getD i ⟨#[]⟩) w hd hb.lt hne h1 (by omega) (fun i hi => ?_)).mono ?_
  · rw [Nat.zero_add, hb.cell i]
    have hl : i < L.length := by omega
    simp [List.getD_eq_getElem?_getD, List.getElem?_eq_getElem hl]
  · rintro e w' ⟨r, hr, rfl, hd', hg'⟩
    refine ⟨_, ?_, rfl, hd', hg'⟩
    have hl : r < L.length := by omega
    show P (L.getD r ⟨#[]⟩)
    rw [List.getD_eq_getElem?_getD, List.getElem?_eq_getElem hl]
    exact hs _ (List.getElem_mem hl)
theorem k_WordL (b g : Nat) (L : List ByteArray) (n : Nat) (w : World) (hd : Dc w b) (hne : g ≠ b) (hb : Blk w g 9 (L.map Value.string).toArray) (hn : L.length = n) (h1 : 1 ≤ n) (h2 : n ≤ 10) (hs : ∀ x ∈ L, x.size ≤ 10) :
    Calls Tryz.prog 54 #[.pointer (some ⟨b, 0, none⟩), .slice (some ⟨g, 0, none⟩) n n] w fun e w' => ∃ x : ByteArray, x.size ≤ 10 ∧ e = .returned (.string x) ∧ Dc w' b ∧ w.grownBy w' (some b) :=
  k_WordP (fun x => x.size ≤ 10) b g L n w hd hne hb hn h1 h2 hs
/-- The same while a statement is made. -/
theorem GSt.wordP (P : ByteArray → Prop) {w W : World} {db tb : Nat} {s : Stm} {va vc vs : Value} (h : GSt w W db tb s va vc vs) {g : Nat} (L : List ByteArray) (n : Nat) (hb : Blk W g 9 (L.map Value.string).toArray) (hg : db < g) (hn : L.length = n) (h1 : 1 ≤ n) (h2 : n ≤ 10) (hs : ∀ x ∈ L, P x) :
    Calls Tryz.prog 54 #[.pointer (some ⟨db, 0, none⟩), .slice (some ⟨g, 0, none⟩) n n] W fun e W' => ∃ x : ByteArray, P x ∧ e = .returned (.string x) ∧ GSt w W' db tb s va vc vs ∧ W.grownBy W' (some db) :=
  (k_WordP P db g L n W h.dc (by omega) hb hn h1 h2 hs).mono fun e W' hh => by
    obtain ⟨x, hx, he, hd, hg⟩ := hh
    exact ⟨x, hx, he, h.dice hd hg, hg⟩
theorem GSt.word {w W : World} {db tb : Nat} {s : Stm} {va vc vs : Value} (h : GSt w W db tb s va vc vs) {g : Nat} (L : List ByteArray) (n : Nat) (hb : Blk W g 9 (L.map Value.string).toArray) (hg : db < g) (hn : L.length = n) (h1 : 1 ≤ n) (h2 : n ≤ 10) (hs : ∀ x ∈ L, x.size ≤ 10) :
    Calls Tryz.prog 54 #[.pointer (some ⟨db, 0, none⟩), .slice (some ⟨g, 0, none⟩) n n] W fun e W' => ∃ x : ByteArray, x.size ≤ 10 ∧ e = .returned (.string x) ∧ GSt w W' db tb s va vc vs ∧ W.grownBy W' (some db) :=
  h.wordP (fun x => x.size ≤ 10) L n hb hg hn h1 h2 hs
/-- A role. -/
theorem GSt.wordR {w W : World} {db tb : Nat} {s : Stm} {va vc vs : Value} (h : GSt w W db tb s va vc vs) {g : Nat} (L : List ByteArray) (n : Nat) (hb : Blk W g 9 (L.map Value.string).toArray) (hg : db < g) (hn : L.length = n) (h1 : 1 ≤ n) (h2 : n ≤ 10) (hs : ∀ x ∈ L, RoleP x) :
    Calls Tryz.prog 54 #[.pointer (some ⟨db, 0, none⟩), .slice (some ⟨g, 0, none⟩) n n] W fun e W' => ∃ x : ByteArray, RoleP x ∧ e = .returned (.string x) ∧ GSt w W' db tb s va vc vs ∧ W.grownBy W' (some db) :=
  h.wordP RoleP L n hb hg hn h1 h2 hs
theorem GSt.lt {w W : World} {db tb : Nat} {s : Stm} {va vc vs : Value} (h : GSt w W db tb s va vc vs) : db < W.heap.size ∧ tb < W.heap.size ∧ w.heap.size < W.heap.size := ⟨h.dc.lt, h.blk.lt, h.res.lt⟩
set_option maxRecDepth 100000 in
set_option maxHeartbeats 4000000 in
theorem p_Statement (db : Nat) (w : World) (hd : Dc w db) : Calls Tryz.prog 33 #[.pointer (some ⟨db, 0, none⟩)] w (StmE w db) := by
  obtain ⟨i0, hi, hz0, hz1, hz2⟩ := info_parts infoAn
  obtain ⟨j0, hj, hy0, hy1, hy2⟩ := info_parts infoSw
  have hlt := hd.lt
  have HD := Lib.hid hd
  clear hd
  go_enter Tryz.func33, Tryz.ntmps33
  go_wp2_with fail
  have hd0 := (HD.out.alloc (.cells stmZ 61)).alloc (.cells #[.string ⟨#[65, 110, 110]⟩, .string ⟨#[68, 114, 46, 32, 65, 110, 110]⟩, .string ⟨#[97, 110, 110]⟩, .string ⟨#[66, 111, 98]⟩, .string ⟨#[65, 110, 110, 105, 101]⟩, .string ⟨#[66, 32, 111, 32, 98]⟩] 9)
  have hb0 := Blk.new (w.alloc (.cells stmZ 61)) 9 #[.string ⟨#[65, 110, 110]⟩, .string ⟨#[68, 114, 46, 32, 65, 110, 110]⟩, .string ⟨#[97, 110, 110]⟩, .string ⟨#[66, 111, 98]⟩, .string ⟨#[65, 110, 110, 105, 101]⟩, .string ⟨#[66, 32, 111, 32, 98]⟩]
  rw [World.size_alloc] at hb0
  refine (k_WordL db (w.heap.size + 1) [⟨#[65, 110, 110]⟩, ⟨#[68, 114, 46, 32, 65, 110, 110]⟩, ⟨#[97, 110, 110]⟩, ⟨#[66, 111, 98]⟩, ⟨#[65, 110, 110, 105, 101]⟩, ⟨#[66, 32, 111, 32, 98]⟩] 6 _ hd0 (by omega) hb0 rfl (by omega) (by omega) (by decide)).mono ?_
  rintro e w1 ⟨x, hx, rfl, hd1, hg1⟩
  have hs1 := hg1.size
  simp only [World.size_alloc] at hs1
  have HR1 : Hid (Blk w1 w.heap.size 61 stmZ) := Lib.hid ((hg1.block _ (by simp; omega) (by intro e; injection e; omega)).trans ((Blk.new w 61 stmZ).alloc _))
  have HG1 : Hid (w.grownBy w1 (some db)) := Lib.hid (gb_trans (gb_trans (World.grownBy_alloc w _ (some db)) (World.grownBy_alloc _ _ (some db))) hg1)
  have HD1 := Lib.hid hd1
  clear hd0 hb0 hd1 hg1
  go_wp2_with fail
  refine (k_Next db 3 w1 HD1.out (by omega) (by omega)).mono ?_
  rintro e w2 ⟨r2, hr2, rfl, hd2, hg2⟩
  have hs2 := hg2.size
  have HR2 : Hid (Blk w2 w.heap.size 61 stmZ) := Lib.hid ((hg2.block _ (by omega) (by intro e; injection e; omega)).trans HR1.out)
  have HG2 := Lib.hid (gb_trans HG1.out hg2)
  have HD2 := Lib.hid hd2
  clear hd2 hg2 HR1 HG1 HD1
  go_wp2_with fail
  refine (k_Next db 900 w2 HD2.out (by omega) (by omega)).mono ?_
  rintro e w3 ⟨r3, hr3, rfl, hd3, hg3⟩
  have hs3 := hg3.size
  have HR3 : Hid (Blk w3 w.heap.size 61 stmZ) := Lib.hid ((hg3.block _ (by omega) (by intro e; injection e; omega)).trans HR2.out)
  have HG3 := Lib.hid (gb_trans HG2.out hg3)
  have HD3 := Lib.hid hd3
  clear hd3 hg3 HR2 HG2 HD2
  go_wp2_with fail
  refine (p_Condition db w3 HD3.out).mono ?_
  rintro e w4 ⟨Ac, nc, cc, Lc, rfl, hT, hl, hk, htr, hd4, hg4⟩
  have hs4 := hg4.size
  have h5 : GSt w (w4.alloc (.cells #[.string x, .int .i64 (r2 : Int), .int .i64 (700000 + (r3 : Int)), .slice none 0 0, .slice Ac nc cc, .slice none 0 0] 61)) db w4.heap.size ⟨x, (r2 : Int), 700000 + (r3 : Int), [], Lc, []⟩ (.slice none 0 0) (.slice Ac nc cc) (.slice none 0 0) :=
    ⟨hd4.alloc _, Blk.new w4 _ _, World.ownsRow_nil _ _ _ _, World.ownsRow_nil _ _ _ _, (hT.keep fun b hb => Below.heap_alloc w4 _ b hb.2).mono fun b hb => ⟨by omega, hb.2⟩, Blk.alloc (show Blk w4 w.heap.size 61 stmZ from (hg4.block _ (by omega) (by intro e; injection e; omega)).trans HR3.out) _, gb_trans (gb_trans HG3.out hg4) (World.grownBy_alloc w4 _ (some db)),
      ⟨hx, ⟨by show -1000000000 ≤ (r2 : Int); omega, by show (r2 : Int) ≤ _; omega⟩, ⟨by show -1000000000 ≤ 700000 + (r3 : Int); omega, by show 700000 + (r3 : Int) ≤ _; omega⟩, Nat.zero_le _, (fun a ha => by cases ha), Nat.zero_le _, (fun a ha => by cases ha), by show Lc.length ≤ 10; omega, hk, htr⟩, hlt, by omega⟩
  have H5 := Lib.hid h5
  clear h5 hT hl hk htr hd4 hg4 HR3 HG3 HD3
  go_wp2_with fail
  refine (k_Next db 3 _ H5.out.dc (by omega) (by omega)).mono ?_
  rintro e w6 ⟨r6, hr6, rfl, hd6, hg6⟩
  have H6 := Lib.hid (H5.out.dice hd6 hg6)
  clear H5 hd6 hg6 hs4 hs3 hs2 hs1
  obtain ⟨tb, htb⟩ : ∃ tb, w4.heap.size = tb := ⟨_, rfl⟩
  rw [htb] at H6
  try rw [htb]
  clear htb
  obtain ⟨s6, hs6⟩ : ∃ s6 : Stm, s6 = ⟨x, (r2 : Int), 700000 + (r3 : Int), [], Lc, []⟩ := ⟨_, rfl⟩
  rw [← hs6] at H6
  have h60 : s6.ans.length = 0 := by rw [hs6]; rfl
  have h61 : s6.shw.length = 0 := by rw [hs6]; rfl
  have H60 := Lib.hid h60
  have H61 := Lib.hid h61
  clear hs6 h60 h61
  go_upto_if 19 with fail
  go_cut [] from 19 to 28 (fun wx => ∃ s va, GSt w wx db tb s va (.slice Ac nc cc) (.slice none 0 0) ∧ s.ans.length ≤ 1 ∧ s.shw.length = 0)
  case first =>
    obtain ⟨va, hva⟩ : ∃ va, Value.slice none 0 0 = va := ⟨_, rfl⟩
    obtain ⟨vs, hvs⟩ : ∃ vs, Value.slice none 0 0 = vs := ⟨_, rfl⟩
    have h6 := H6.out
    have z0 : s6.ans.length ≤ 0 := by have := H60.out; omega
    by_cases h0 : 0 < r6
    · have q0 : (0 : Int) < (r6 : Int) := by omega
      have H6' : Hid (GSt w w6 db tb s6 (.slice none 0 0) (.slice Ac nc cc) (.slice none 0 0)) := Lib.hid h6
      clear h6 hva hvs va vs H6
      have hl8 := H6'.out.lt
      have hwd : ∀ W : World, GSt w W db tb s6 (.slice none 0 0) (.slice Ac nc cc) (.slice none 0 0) → Blk W w6.heap.size 9 #[.string ⟨#[97]⟩, .string ⟨#[98]⟩, .string ⟨#[97]⟩] → Calls Tryz.prog 54 #[.pointer (some ⟨db, 0, none⟩), .slice (some ⟨w6.heap.size, 0, none⟩) 3 3] W fun e W' => ∃ x : ByteArray, x.size ≤ 10 ∧ e = .returned (.string x) ∧ GSt w W' db tb s6 (.slice none 0 0) (.slice Ac nc cc) (.slice none 0 0) ∧ W.grownBy W' (some db) := fun W h hb => h.word [⟨#[97]⟩, ⟨#[98]⟩, ⟨#[97]⟩] 3 hb (by omega) rfl (by omega) (by omega) (by decide)
      have HWD := Lib.hid hwd
      have b0 := H6'.out.drew.c3
      have b1 := fun o => (H6'.out.alloc o).c3
      have b2 := fun o => (H6'.out.alloc o).drew.c3
      have b3 := fun o => (H6'.out.drew.alloc o).c3
      clear hwd
      go_upto_region 3 with fail
      go_region_law (first
        | (refine step_append_lies _ (by rfl) _ _ _ (by rfl) tb 106 i0 _ 3 40 Tryz.underlying55 hi hz0 hz1 hz2 rfl (by omega) (.slice none 0 0) s6.ans.length (ansC s6.ans) (by rfl) (E9.out.alloc _) ⟨w9.heap.size, 0, none⟩ 1 1 [.string ⟨#[107, 105, 110, 100]⟩, .string x, .int .i64 0] (by rfl) (by rfl) (World.news_of_block (cs := #[.string ⟨#[107, 105, 110, 100]⟩, .string x, .int .i64 0]) (t := 106) (fr := (0, 0)) (heap_alloc_new w9 _)) (by intro u hu; simp at hu; rcases hu with rfl | rfl | rfl <;> rfl) (by omega) (by simp only [maxLen]; omega) (by omega) (by simp; omega) (w9.heap.size + 1) (by simp) ?_; intro gg cap w10 hown10 hgr10 hat10 hlt10; have MO := Lib.hid (H9.out.pushA (a := ⟨⟨#[107, 105, 110, 100]⟩, x, 0⟩) hown10 hgr10 (by omega) ⟨by show 4 ≤ 10; omega, hx, by show (-1000000000 : Int) ≤ 0; decide, by show (0 : Int) ≤ _; decide⟩); have mc := MO.out.2.1; have mf := MO.out.2.2; clear hown10 hgr10 hat10)
        | ((try go_simp); go_at_call 54; ((with_reducible refine (HWD.out _ (by first | exact H6'.out.alloc _ | exact (H6'.out.alloc _).drew | exact H6'.out.drew.alloc _) (by first | exact Blk.new w6 _ _ | exact (Blk.new w6 _ _).drew | exact Blk.new w6.drew _ _)).mono ?_); rintro e w9 ⟨x, hx, rfl, h9, hg9⟩; have H9 := Lib.hid h9; have d0 := h9.c3; have d3 := (fun o => (h9.alloc o).c3); have d4 := h9.lt; have E9 := Lib.hid h9.oa; clear h9 hg9)))
      all_goals
        have z1 := H61.out
        go_wp2_with fail
        go_meet
        exact ⟨_, _, MO.out.1, (by show (s6.ans ++ [_]).length ≤ 1; rw [List.length_append]; show _ + 1 ≤ 1; omega), z1⟩
    · have q0 : ¬ (0 : Int) < (r6 : Int) := by omega
      have z1 := H61.out
      clear h6 hva hvs va vs
      go_wp2_with fail
      go_meet
      exact ⟨_, _, H6.out, by omega, z1⟩
  case rest =>
    obtain ⟨s7, va, h7, ha7, hs7⟩ := hcut
    have H7 := Lib.hid h7
    have HA7 := Lib.hid ha7
    have HS7 := Lib.hid hs7
    clear h7 ha7 hs7 H6 H60 H61
    go_wp2_with fail
    refine (p_One db 3 _ H7.out.dc (by omega) (by omega)).mono ?_
    rintro e w8 ⟨b8, rfl, hd8, hg8⟩
    have H8 := Lib.hid (H7.out.dice hd8 hg8)
    clear H7 hd8 hg8
    go_upto_if 30 with fail
    go_cut [] from 30 to 39 (fun wx => ∃ s va, GSt w wx db tb s va (.slice Ac nc cc) (.slice none 0 0) ∧ s.ans.length ≤ 2 ∧ s.shw.length = 0)
    case first =>
      cases b8
      · have z0 := HA7.out
        have z1 := HS7.out
        go_wp2_with fail
        go_meet
        exact ⟨_, _, H8.out, by omega, z1⟩
      · have z0 := HA7.out
        have hl8 := H8.out.lt
        have hwd : ∀ W : World, GSt w W db tb s7 va (.slice Ac nc cc) (.slice none 0 0) → Blk W w8.heap.size 9 #[.string ⟨#[120]⟩, .string ⟨#[115, 101, 101, 110]⟩, .string ⟨#[]⟩] → Calls Tryz.prog 54 #[.pointer (some ⟨db, 0, none⟩), .slice (some ⟨w8.heap.size, 0, none⟩) 3 3] W fun e W' => ∃ x : ByteArray, x.size ≤ 10 ∧ e = .returned (.string x) ∧ GSt w W' db tb s7 va (.slice Ac nc cc) (.slice none 0 0) ∧ W.grownBy W' (some db) := fun W h hb => h.word [⟨#[120]⟩, ⟨#[115, 101, 101, 110]⟩, ⟨#[]⟩] 3 hb (by omega) rfl (by omega) (by omega) (by decide)
        have HWD := Lib.hid hwd
        have b0 := H8.out.drew.c3
        have b1 := fun o => (H8.out.alloc o).c3
        have b2 := fun o => (H8.out.alloc o).drew.c3
        have b3 := fun o => (H8.out.drew.alloc o).c3
        clear hwd
        go_upto_region 5 with fail
        go_region_law (first
          | (refine step_append_lies _ (by rfl) _ _ _ (by rfl) tb 106 i0 _ 3 40 Tryz.underlying55 hi hz0 hz1 hz2 rfl (by omega) va s7.ans.length (ansC s7.ans) (by rfl) (E9.out.alloc _) ⟨w9.heap.size, 0, none⟩ 1 1 [.string ⟨#[110, 111, 116, 101]⟩, .string x, .int .i64 0] (by rfl) (by rfl) (World.news_of_block (cs := #[.string ⟨#[110, 111, 116, 101]⟩, .string x, .int .i64 0]) (t := 106) (fr := (0, 0)) (heap_alloc_new w9 _)) (by intro u hu; simp at hu; rcases hu with rfl | rfl | rfl <;> rfl) (by omega) (by simp only [maxLen]; omega) (by omega) (by simp; omega) (w9.heap.size + 1) (by simp) ?_; intro gg cap w10 hown10 hgr10 hat10 hlt10; have MO := Lib.hid (H9.out.pushA (a := ⟨⟨#[110, 111, 116, 101]⟩, x, 0⟩) hown10 hgr10 (by omega) ⟨by show 4 ≤ 10; omega, hx, by show (-1000000000 : Int) ≤ 0; decide, by show (0 : Int) ≤ _; decide⟩); have mc := MO.out.2.1; have mf := MO.out.2.2; clear hown10 hgr10 hat10)
          | ((try go_simp); go_at_call 54; ((with_reducible refine (HWD.out _ (by first | exact H8.out.alloc _ | exact (H8.out.alloc _).drew | exact H8.out.drew.alloc _) (by first | exact Blk.new w8 _ _ | exact (Blk.new w8 _ _).drew | exact Blk.new w8.drew _ _)).mono ?_); rintro e w9 ⟨x, hx, rfl, h9, hg9⟩; have H9 := Lib.hid h9; have d0 := h9.c3; have d3 := (fun o => (h9.alloc o).c3); have d4 := h9.lt; have E9 := Lib.hid h9.oa; clear h9 hg9)))
        all_goals
          have z1 := HS7.out
          go_wp2_with fail
          go_meet
          exact ⟨_, _, MO.out.1, (by show (s7.ans ++ [_]).length ≤ 2; rw [List.length_append]; show _ + 1 ≤ 2; omega), z1⟩
    case rest =>
      obtain ⟨s9, va9, h9, ha9, hs9⟩ := hcut
      rename World => w9
      have l9 := h9.lt
      have H9 := Lib.hid h9
      have HA9 := Lib.hid ha9
      have HS9 := Lib.hid hs9
      clear h9 ha9 hs9 H8 HA7 HS7
      go_wp2_with fail
      go_loopw [5, 42] (fun v5 v42 wr => ∃ (i : Nat) (s : Stm) (vs : Value), i ≤ 3 ∧ v42 = .int .i64 (i : Int) ∧ GSt w wr db tb s va9 (.slice Ac nc cc) vs ∧ s.shw.length ≤ i ∧ Blk wr w9.heap.size 9 #[.string ⟨#[107, 105, 110, 100]⟩, .string ⟨#[114, 101, 115, 112, 111, 110, 100, 101, 110, 116]⟩, .string ⟨#[110, 111, 116, 101]⟩] ∧ s.ans.length ≤ 2) (fun _ v42 _ => 3 - (intOf v42).toNat)
      case atStart => exact ⟨0, s9, _, by omega, rfl, H9.out.alloc _, by have := HS9.out; omega, Blk.new w9 _ _, HA9.out⟩
      case round =>
        obtain ⟨i, s, vs, hi3, rfl, hg, hsl, hsb, hal⟩ := hrel
        have HG := Lib.hid hg
        have HSL := Lib.hid hsl
        have HSB := Lib.hid hsb
        have HAL := Lib.hid hal
        clear hg hsl hsb hal
        by_cases h3 : i < 3
        · have q3 : (i : Int) < 3 := by omega
          have q0 : (0 : Int) ≤ (i : Int) := by omega
          obtain ⟨f, hfc, hfs⟩ : ∃ f : ByteArray, wr.cell? ⟨w9.heap.size, i, none⟩ = some (.string f) ∧ f.size ≤ 10 := by
            have hb := HSB.out
            rcases (show i = 0 ∨ i = 1 ∨ i = 2 by omega) with rfl | rfl | rfl
            · exact ⟨_, hb.cell 0, by decide⟩
            · exact ⟨_, hb.cell 1, by decide⟩
            · exact ⟨_, hb.cell 2, by decide⟩
          have HFS := Lib.hid hfs
          clear hfs
          go_wp2_with fail
          refine (p_One db 2 _ HG.out.dc (by omega) (by omega)).mono ?_
          rintro e w10 ⟨b10, rfl, hd10, hg10⟩
          have H10 := Lib.hid (HG.out.dice hd10 hg10)
          have HSB10 : Hid (Blk w10 w9.heap.size 9 #[.string ⟨#[107, 105, 110, 100]⟩, .string ⟨#[114, 101, 115, 112, 111, 110, 100, 101, 110, 116]⟩, .string ⟨#[110, 111, 116, 101]⟩]) := Lib.hid ((hg10.block _ HSB.out.lt (by intro e; injection e; omega)).trans HSB.out)
          clear hd10 hg10 HG HSB hfc
          cases b10
          · go_wp2_with fail
            go_roundw
            case measure => simp [intOf]; omega
            case rel => exact ⟨i + 1, s, vs, by omega, by go_num, H10.out, by have := HSL.out; omega, HSB10.out, HAL.out⟩
          · have zl := HSL.out
            have hfs := HFS.out
            have hl8 := H10.out.lt
            have hwd : ∀ W : World, GSt w W db tb s va9 (.slice Ac nc cc) vs → Blk W w10.heap.size 9 #[.string ⟨#[104, 114]⟩, .string ⟨#[108, 101, 103, 97, 108]⟩] → Calls Tryz.prog 54 #[.pointer (some ⟨db, 0, none⟩), .slice (some ⟨w10.heap.size, 0, none⟩) 2 2] W fun e W' => ∃ x : ByteArray, RoleP x ∧ e = .returned (.string x) ∧ GSt w W' db tb s va9 (.slice Ac nc cc) vs ∧ W.grownBy W' (some db) := fun W h hb => h.wordR [⟨#[104, 114]⟩, ⟨#[108, 101, 103, 97, 108]⟩] 2 hb (by omega) rfl (by omega) (by omega) (by decide)
            have HWD := Lib.hid hwd
            have b0 := H10.out.drew.c5
            have b1 := fun o => (H10.out.alloc o).c5
            have b2 := fun o => (H10.out.alloc o).drew.c5
            have b3 := fun o => (H10.out.drew.alloc o).c5
            clear hwd
            go_upto_region 10 with fail
            go_region_law (first
              | (refine step_append_lies _ (by rfl) _ _ _ (by rfl) tb 109 j0 _ 2 32 Tryz.underlying59 hj hy0 hy1 hy2 rfl (by omega) vs s.shw.length (shwC s.shw) (by rfl) (E9.out.alloc _) ⟨w11.heap.size, 0, none⟩ 1 1 [.string f, .string x] (by rfl) (by rfl) (World.news_of_block (cs := #[.string f, .string x]) (t := 109) (fr := (0, 0)) (heap_alloc_new w11 _)) (by intro u hu; simp at hu; rcases hu with rfl | rfl <;> rfl) (by omega) (by simp only [maxLen]; omega) (by omega) (by simp; omega) (w11.heap.size + 1) (by simp) ?_; intro gg cap w12 hown10 hgr10 hat10 hlt10; have MO := Lib.hid (H9.out.pushS (a := ⟨f, x⟩) hown10 hgr10 (by omega) ⟨hfs, hx⟩); have mc := MO.out.2.1; have mf := MO.out.2.2; have S10 : Hid (Blk (w12.setCell ⟨tb, 5, none⟩ (.slice (some ⟨gg, 0, none⟩) (s.shw.length + 1) cap)) w9.heap.size 9 #[.string ⟨#[107, 105, 110, 100]⟩, .string ⟨#[114, 101, 115, 112, 111, 110, 100, 101, 110, 116]⟩, .string ⟨#[110, 111, 116, 101]⟩]) := Lib.hid (Blk.far ((hgr10.block w9.heap.size (by have := S9.out.lt; simp; omega) (fun e => by have := own_not E9.out S9.out (by decide) _ e.symm; omega)).trans (S9.out.alloc _)) (by show w9.heap.size ≠ tb; omega) _); clear hown10 hgr10 hat10)
              | ((try go_simp); go_at_call 54; ((with_reducible refine (HWD.out _ (by first | exact H10.out.alloc _ | exact (H10.out.alloc _).drew | exact H10.out.drew.alloc _) (by first | exact Blk.new w10 _ _ | exact (Blk.new w10 _ _).drew | exact Blk.new w10.drew _ _)).mono ?_); rintro e w11 ⟨x, hx, rfl, h9, hg9⟩; have H9 := Lib.hid h9; have d0 := h9.c5; have d3 := (fun o => (h9.alloc o).c5); have d4 := h9.lt; have E9 := Lib.hid h9.os; have S9 : Hid (Blk w11 w9.heap.size 9 #[.string ⟨#[107, 105, 110, 100]⟩, .string ⟨#[114, 101, 115, 112, 111, 110, 100, 101, 110, 116]⟩, .string ⟨#[110, 111, 116, 101]⟩]) := Lib.hid ((hg9.block w9.heap.size (by first | (have := HSB10.out.lt; simp; omega)) (by intro e; injection e; omega)).trans (by first | exact HSB10.out.alloc _ | exact (HSB10.out.alloc _).drew | exact Blk.alloc HSB10.out.drew _)); clear h9 hg9)))
            all_goals
              go_wp2_with fail
              go_roundw
              case measure => simp [intOf]; omega
              case rel => exact ⟨i + 1, _, _, by omega, by go_num, MO.out.1, (by show (s.shw ++ [_]).length ≤ i + 1; rw [List.length_append]; show _ + 1 ≤ i + 1; omega), S10.out, HAL.out⟩
        · have q3 : ¬ (i : Int) < 3 := by omega
          go_wp2_with fail
          refine (p_One db 15 _ HG.out.dc (by omega) (by omega)).mono ?_
          rintro e w10 ⟨b10, rfl, hd10, hg10⟩
          have h10 := HG.out.dice hd10 hg10
          obtain ⟨Aa, ca, Ac', nc', cc', As, cs, e1, e2, e3, -⟩ := h10.fin
          have e2' := e2
          injection e2' with e4 e5 e6
          subst e1
          subst e3
          obtain ⟨na, hna⟩ : ∃ na, s.ans.length = na := ⟨_, rfl⟩
          obtain ⟨ns, hns⟩ : ∃ ns, s.shw.length = ns := ⟨_, rfl⟩
          rw [hna, hns] at h10
          have H10 := Lib.hid h10
          have c0 := (h10.blk.cell 0).trans (show _ = some (Value.string s.resp) from rfl)
          have c1 := (h10.blk.cell 1).trans (show _ = some (Value.int .i64 s.dep) from rfl)
          have c2 := (h10.blk.cell 2).trans (show _ = some (Value.int .i64 s.day) from rfl)
          have c3 := (h10.blk.cell 3).trans (show _ = some (Value.slice Aa na ca) from rfl)
          have c4 := (h10.blk.cell 4).trans (show _ = some (Value.slice Ac nc cc) from rfl)
          have c5 := (h10.blk.cell 5).trans (show _ = some (Value.slice As ns cs) from rfl)
          have r0 := (h10.res.cell 0).trans (show _ = some (Value.string ⟨#[]⟩) from rfl)
          have r1 := (h10.res.cell 1).trans (show _ = some (Value.int .i64 0) from rfl)
          have r2 := (h10.res.cell 2).trans (show _ = some (Value.int .i64 0) from rfl)
          have r3 := (h10.res.cell 3).trans (show _ = some (Value.slice none 0 0) from rfl)
          have r4 := (h10.res.cell 4).trans (show _ = some (Value.slice none 0 0) from rfl)
          have r5 := (h10.res.cell 5).trans (show _ = some (Value.slice none 0 0) from rfl)
          have g0 := h10.res.frozen 0
          have g1 := h10.res.frozen 1
          have g2 := h10.res.frozen 2
          have g3 := h10.res.frozen 3
          have g4 := h10.res.frozen 4
          have g5 := h10.res.frozen 5
          have f0 := h10.blk.frozen 0
          have tlt := h10.tlt
          clear hd10 hg10 h10 HG HSB hna hns
          clear e2 e4 e5 e6
          cases b10
          · go_wp2_with fail
            obtain ⟨Aa', ca', Ac'', nc'', cc'', As', cs', e1, e2, e3, fin⟩ := H10.out.fin
            obtain ⟨fin, hb⟩ := fin _ rfl
            refine bodyPost_ret (v := .agg #[.string s.resp, .int .i64 s.dep, .int .i64 s.day, .slice Aa na ca, .slice Ac nc cc, .slice As ns cs]) ?_ rfl fin
            simp [results, Tryz.results33, go_sem, (hb.cell 0).trans (show _ = some (Value.string s.resp) from rfl), (hb.cell 1).trans (show _ = some (Value.int .i64 s.dep) from rfl), (hb.cell 2).trans (show _ = some (Value.int .i64 s.day) from rfl), (hb.cell 3).trans (show _ = some (Value.slice Aa na ca) from rfl), (hb.cell 4).trans (show _ = some (Value.slice Ac nc cc) from rfl), (hb.cell 5).trans (show _ = some (Value.slice As ns cs) from rfl)]
          · have hR := H10.out.setR ⟨#[]⟩ (by decide)
            have HR := Lib.hid hR
            clear hR
            go_wp2_with fail
            obtain ⟨Aa', ca', Ac'', nc'', cc'', As', cs', e1, e2, e3, fin⟩ := HR.out.fin
            obtain ⟨fin, hb⟩ := fin _ rfl
            refine bodyPost_ret (v := .agg #[.string ⟨#[]⟩, .int .i64 s.dep, .int .i64 s.day, .slice Aa na ca, .slice Ac nc cc, .slice As ns cs]) ?_ rfl fin
            simp [results, Tryz.results33, go_sem, (hb.cell 0).trans (show _ = some (Value.string ⟨#[]⟩) from rfl), (hb.cell 1).trans (show _ = some (Value.int .i64 s.dep) from rfl), (hb.cell 2).trans (show _ = some (Value.int .i64 s.day) from rfl), (hb.cell 3).trans (show _ = some (Value.slice Aa na ca) from rfl), (hb.cell 4).trans (show _ = some (Value.slice Ac nc cc) from rfl), (hb.cell 5).trans (show _ = some (Value.slice As ns cs) from rfl)]
end Go.Proofs.YtgeahbmaeaoeeaaGreatDoor.Pa
