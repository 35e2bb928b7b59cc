/- Contracts: the plays' Condition. Slices of slices: their value under one name. Contracts: the options of a field, the program's and the reference's. Contracts: the plays' Statement. -/
import Derived.Test.YtaljcojkcgjmcaaGreatDoorX34
import Derived.Test.YtaljcojkcgjmcaaGreatDoorX03
import Derived.Test.YtaljcojkcgjmcaaGreatDoorX09
import Derived.Deep.CutRange
import Derived.Deep.CutBlock
set_option linter.unusedVariables false
set_option linter.unusedSimpArgs false
namespace Go.Proofs.YtaljcojkcgjmcaaGreatDoor
open Go.RowKit Num

/-- A condition of the plays: one term, or three. -/
theorem kit_argsP (k : Int) (ar : List Int) (h : ar.length ≤ 3) : KitT ⟨k, 0, 0, E0, E0, ar⟩ := ⟨by show (0 : Nat) ≤ 4; omega, by show (0 : Nat) ≤ 5; omega, (fun c hc => by cases hc), (fun c hc => by cases hc), h⟩
def PlC (w : World) (db : Nat) (e : Ending) (w' : World) : Prop := ∃ A n c L, e = .returned (.agg #[.slice A n c]) ∧ TermsAt w' (fun b => w.heap.size ≤ b ∧ b < w'.heap.size) (.slice A n c) L ∧ L.length ≤ 3 ∧ (∀ t ∈ L, KitT t) ∧ Dc w' db ∧ w.grownBy w' (some db)
structure C2 (w W : World) (db : Nat) : Prop where
  dc : Dc W db
  box : Blk W w.heap.size 25 #[.pointer (some ⟨db, 0, none⟩)]
  res : Blk W (w.heap.size + 1) 30 #[.slice none 0 0]
  gw : w.grownBy W (some db)
  dl : db < w.heap.size
section
variable {w W W' : World} {db : Nat}
theorem C2.dice (h : C2 w W db) (hd : Dc W' db) (hg : W.grownBy W' (some db)) : C2 w W' db :=
  ⟨hd, (hg.block _ h.box.lt (by intro e; injection e; have := h.dl; omega)).trans h.box, (hg.block _ h.res.lt (by intro e; injection e; have := h.dl; omega)).trans h.res, gb_trans h.gw hg, h.dl⟩
theorem C2.alloc (h : C2 w W db) (o : Obj) : C2 w (W.alloc o) db := h.dice (h.dc.alloc o) (World.grownBy_alloc W o _)
theorem C2.bc (h : C2 w W db) : W.cell? ⟨w.heap.size, 0, none⟩ = some (.pointer (some ⟨db, 0, none⟩)) := (h.box.cell 0).trans rfl
theorem C2.rc (h : C2 w W db) : W.cell? ⟨w.heap.size + 1, 0, none⟩ = some (.slice none 0 0) := (h.res.cell 0).trans rfl
theorem C2.rf (h : C2 w W db) : W.frozen? ⟨w.heap.size + 1, 0, none⟩ = false := h.res.frozen 0
/-- The terms are stored as the result. -/
theorem C2.fin (h : C2 w W db) {A : Option Addr} {n c : Nat} {L : List Trm} (hT : TermsAt W (fun b => w.heap.size + 1 < b ∧ b < W.heap.size) (.slice A n c) L) (hl : L.length ≤ 3) (hk : ∀ t ∈ L, KitT t) :
    PlC w db (.returned (.agg #[.slice A n c])) (W.setCell ⟨w.heap.size + 1, 0, none⟩ (.slice A n c)) ∧ (W.setCell ⟨w.heap.size + 1, 0, none⟩ (.slice A n c)).cell? ⟨w.heap.size + 1, 0, none⟩ = some (.slice A n c) := by
  have hg : W.grownBy (W.setCell ⟨w.heap.size + 1, 0, none⟩ (.slice A n c)) (some (w.heap.size + 1)) := grown_setCell W ⟨w.heap.size + 1, 0, none⟩ _
  have h1 := h.dl
  refine ⟨⟨A, n, c, L, rfl, (hT.keep fun b hb => hg.block b hb.2 (by intro e; injection e; omega)).mono fun b hb => ⟨by omega, by have := hg.size; omega⟩, hl, hk, h.dc.keep fun q hq => hg.block q (by have := h.dc.lt; omega) (by intro e; injection e; omega), ?_⟩, World.cell?_setCell_same W ⟨w.heap.size + 1, 0, none⟩ _ h.rc⟩
  exact ⟨hg.os.trans h.gw.os, hg.tape.trans h.gw.tape, hg.output.trans h.gw.output, Nat.le_trans h.gw.size hg.size, fun q hq hne => (hg.block q (Nat.lt_of_lt_of_le hq h.gw.size) (by intro e; injection e; omega)).trans (h.gw.block q hq hne)⟩
end
theorem term_none {W : World} {S : Nat → Prop} {g off : Nat} {k n y : Int} {f x : ByteArray} (c0 : W.cell? ⟨g, off, none⟩ = some (.int .i64 k)) (c1 : W.cell? ⟨g, off + 1, none⟩ = some (.int .i64 n)) (c2 : W.cell? ⟨g, off + 2, none⟩ = some (.int .i64 y)) (c3 : W.cell? ⟨g, off + 3, none⟩ = some (.string f)) (c4 : W.cell? ⟨g, off + 4, none⟩ = some (.string x)) (c5 : W.cell? ⟨g, off + 5, none⟩ = some (.slice none 0 0)) :
    TermAt W S g off ⟨k, n, y, f, x, []⟩ := ⟨c0, c1, c2, c3, c4, _, c5, none, 0, 0, rfl, rfl, Nat.le_refl _, fun h => absurd h (Nat.lt_irrefl 0)⟩
theorem terms_one {W : World} {S : Nat → Prop} {g : Nat} {k n y : Int} {f x : ByteArray} (h : Blk W g 72 (trmC k n y f x)) (hS : S g) : TermsAt W S (.slice (some ⟨g, 0, none⟩) 1 1) [⟨k, n, y, f, x, []⟩] := by
  refine ⟨_, 1, 1, rfl, rfl, Nat.le_refl _, fun _ => ⟨g, 0, rfl, hS, fun q hq => ?_⟩⟩
  obtain rfl : q = 0 := by omega
  exact term_none (h.cell 0) (h.cell 1) (h.cell 2) (h.cell 3) (h.cell 4) (h.cell 5)
theorem terms_three {W : World} {S : Nat → Prop} {g a : Nat} {k0 k n y k' n' y' : Int} {f x f' x' : ByteArray}
    (h : Blk W g 72 #[.int .i64 k0, .int .i64 0, .int .i64 0, .string ⟨#[]⟩, .string ⟨#[]⟩, .slice (some ⟨a, 0, none⟩) 2 2, .int .i64 k, .int .i64 n, .int .i64 y, .string f, .string x, .slice none 0 0, .int .i64 k', .int .i64 n', .int .i64 y', .string f', .string x', .slice none 0 0])
    (ha : Blk W a 3 #[.int .i64 1, .int .i64 2]) (hS : S g) (hSa : S a) : TermsAt W S (.slice (some ⟨g, 0, none⟩) 3 3) [⟨k0, 0, 0, E0, E0, [1, 2]⟩, ⟨k, n, y, f, x, []⟩, ⟨k', n', y', f', x', []⟩] := by
  refine ⟨_, 3, 3, rfl, rfl, Nat.le_refl _, fun _ => ⟨g, 0, rfl, hS, fun q hq => ?_⟩⟩
  have hq3 : q = 0 ∨ q = 1 ∨ q = 2 := by omega
  rcases hq3 with rfl | rfl | rfl
  · refine ⟨h.cell 0, h.cell 1, h.cell 2, h.cell 3, h.cell 4, _, h.cell 5, _, 2, 2, rfl, rfl, Nat.le_refl _, fun _ => ⟨a, 0, rfl, hSa, fun j hj => ?_⟩⟩
    have hj2 : j = 0 ∨ j = 1 := by omega
    rcases hj2 with rfl | rfl
    · exact ha.cell 0
    · exact ha.cell 1
  · exact term_none (h.cell 6) (h.cell 7) (h.cell 8) (h.cell 9) (h.cell 10) (h.cell 11)
  · exact term_none (h.cell 12) (h.cell 13) (h.cell 14) (h.cell 15) (h.cell 16) (h.cell 17)
def of12 : Nat → Int := fun i => if i = 0 then 1 else 2
end Go.Proofs.YtaljcojkcgjmcaaGreatDoor
namespace Go.Proofs.YtaljcojkcgjmcaaGreatDoor
open Go.RowKit Num
/-- The head of a slice of a slice. -/
def subA (A : Option Addr) (cap k size : Nat) : Option Addr := if cap = k then A else A.map (·.add (k * size))
section
variable {P : Program} (w : World) (t e : TypeId) (i : TypeInfo) (size : Nat)
theorem run_slice_lohi (ht : P.underlying t = some (.slice e)) (hi : P.info? e = some i) (hz : i.size = size) (A : Option Addr) (n c lo hg : Nat) (h1 : lo ≤ hg) (h2 : hg ≤ c) (x y : Int) (hx : x = (lo : Int)) (hy : y = (hg : Int)) :
    (Instr.slice t (.slice A n c) (some (.int .i64 x)) (some (.int .i64 y)) none).run P w = .ok (.slice (subA A c lo size) (hg - lo) (c - lo)) w := by
  subst hx hy hz
  have e1 : (0 : Int) ≤ (hg : Int) ∧ (hg : Int) ≤ (c : Int) := by omega
  have e2 : (0 : Int) ≤ (lo : Int) ∧ (lo : Int) ≤ (hg : Int) := by omega
  simp [Instr.slice, run_underlying ht, Instr.sliceBounds, Instr.sliceBound, asIntOf, sizeOf, typeInfo, hi, subA, go_sem, h1, h2]
theorem run_slice_hi (ht : P.underlying t = some (.slice e)) (hi : P.info? e = some i) (A : Option Addr) (n c hg : Nat) (h2 : hg ≤ c) (y : Int) (hy : y = (hg : Int)) :
    (Instr.slice t (.slice A n c) none (some (.int .i64 y)) none).run P w = .ok (.slice A hg c) w := by
  subst hy
  have e1 : (0 : Int) ≤ (hg : Int) ∧ (hg : Int) ≤ (c : Int) := by omega
  simp [Instr.slice, run_underlying ht, Instr.sliceBounds, Instr.sliceBound, asIntOf, sizeOf, typeInfo, hi, go_sem, h2]
theorem run_slice_lo (ht : P.underlying t = some (.slice e)) (hi : P.info? e = some i) (hz : i.size = size) (A : Option Addr) (n c lo : Nat) (h1 : lo ≤ n) (h2 : n ≤ c) (x : Int) (hx : x = (lo : Int)) :
    (Instr.slice t (.slice A n c) (some (.int .i64 x)) none none).run P w = .ok (.slice (subA A c lo size) (n - lo) (c - lo)) w := by
  subst hx hz
  have e2 : (0 : Int) ≤ (lo : Int) ∧ (lo : Int) ≤ (n : Int) := by omega
  simp [Instr.slice, run_underlying ht, Instr.sliceBounds, Instr.sliceBound, asIntOf, sizeOf, typeInfo, hi, subA, go_sem, h1]
end
theorem Reads.sub {w : World} {B size n : Nat} {A : Option Addr} {xs : List Value} (h : Reads w B size A n xs) {lo hg cap : Nat} (h1 : lo ≤ hg) (h2 : hg ≤ n) (hc : n ≤ cap) :
    Reads w B size (subA A cap lo size) (hg - lo) ((xs.drop (lo * size)).take ((hg - lo) * size)) := by
  refine ⟨?_, fun hn => ?_⟩
  · rw [List.length_take, List.length_drop, h.1, ← Nat.sub_mul]
    exact Nat.min_eq_left (Nat.mul_le_mul_right size (by omega))
  obtain ⟨ad, rfl, hb, hcell⟩ := h.2 (by omega)
  unfold subA
  rw [if_neg (by omega)]
  refine ⟨ad.add (lo * size), rfl, by rw [block_of_add]; exact hb, fun j u hu => ?_⟩
  rw [add_of_add]
  rw [List.getElem?_take] at hu
  split at hu
  · exact hcell _ u (by rw [← hu, List.getElem?_drop])
  · cases hu
end Go.Proofs.YtaljcojkcgjmcaaGreatDoor
namespace Go.Proofs.YtaljcojkcgjmcaaGreatDoor
open Go.RowKit Num

theorem infoTx : (Tryz.prog.info? 9).map (fun i => (i.zero, i.size, i.bytes)) = some (some (.string ⟨#[]⟩), 1, 16) := by kernel_rfl
theorem str_ne {s : ByteArray} (h0 : ¬ s.size = 0) : (s.toList == []) = false ∧ (!s.toList.isEmpty) = true ∧ ¬ s.toList = [] := by
  have z1 : (s.toList == []) = false := by
    rw [ByteArray.toList_eq]
    cases hl : s.data.toList with
    | nil => exact absurd (by rw [← blOf_len]; show s.data.toList.length = 0; rw [hl]; rfl) h0
    | cons a r => rfl
  have z2 : (!s.toList.isEmpty) = true := by
    rw [ByteArray.toList_eq]
    cases hl : s.data.toList with
    | nil => exact absurd (by rw [← blOf_len]; show s.data.toList.length = 0; rw [hl]; rfl) h0
    | cons a r => rfl
  exact ⟨z1, z2, by simpa using z1⟩
theorem str_nil {s : ByteArray} (h0 : s.size = 0) : s = ⟨#[]⟩ := blOf_inj (List.eq_nil_of_length_eq_zero (by rw [blOf_len]; exact h0))
theorem bsOf_bl (s : ByteArray) : bsOf (blOf s) = s := bsOf_blOf s
theorem optGood_step {L : List ByteArray} {k : Nat} (h : optGood L k) (h1 : 1 ≤ (L.getD k ⟨#[]⟩).size) (h2 : (L.getD k ⟨#[]⟩).size ≤ 256) (h3 : ∀ j, j < k → L.getD j ⟨#[]⟩ ≠ L.getD k ⟨#[]⟩) : optGood L (k + 1) := fun i hi => by
  by_cases e : i = k
  · subst e; exact ⟨h1, h2, h3⟩
  · exact h i (by omega)
theorem optsB_false {L : List ByteArray} {k : Nat} (hk : k < L.length) (h : ¬ (1 ≤ (L.getD k ⟨#[]⟩).size ∧ (L.getD k ⟨#[]⟩).size ≤ 256 ∧ ∀ j, j < k → L.getD j ⟨#[]⟩ ≠ L.getD k ⟨#[]⟩)) : optsB L = false :=
  decide_eq_false fun hg => h (hg.1 k hk)
theorem optsB_end {L : List ByteArray} (h : optGood L L.length) : optsB L = decide (1 ≤ L.length ∧ L.length ≤ 16) := by
  unfold optsB
  by_cases e : 1 ≤ L.length ∧ L.length ≤ 16
  · rw [decide_eq_true e]; exact decide_eq_true ⟨h, e⟩
  · rw [decide_eq_false e]; exact decide_eq_false fun hg => e hg.2
/-- A head of texts, as the look-up reads it. -/
theorem strs_head {w : World} {b off n c : Nat} {L : List ByteArray} (hc : ∀ k, k < n → w.cell? ⟨b, off + k, none⟩ = some (.string (L.getD k ⟨#[]⟩))) (hn : n = L.length) (hb : b < w.heap.size) (k : Nat) (hk : k ≤ n) :
    StrsAt' w (.slice (some ⟨b, off, none⟩) k c) ((L.take k).map blOf) := by
  refine ⟨b, off, k, c, rfl, by simp; omega, hb, fun j hj => ?_⟩
  rw [hc j (by omega)]
  have e : ((L.take k).map blOf).getD j [] = blOf (L.getD j ⟨#[]⟩) := by
    rw [List.getD_eq_getElem?_getD, List.getElem?_map, List.getElem?_take, if_pos hj, List.getElem?_eq_getElem (by omega), List.getD_eq_getElem?_getD, List.getElem?_eq_getElem (by omega)]
    rfl
  rw [e, bsOf_bl]
theorem head_has {L : List ByteArray} {k : Nat} (hk : k < L.length) {s : ByteArray} : ((L.take k).map blOf).contains (blOf s) = true ↔ ∃ j, j < k ∧ L.getD j ⟨#[]⟩ = s := by
  rw [List.contains_iff_mem, List.mem_map]
  constructor
  · rintro ⟨x, hx, he⟩
    obtain ⟨j, hj, rfl⟩ := List.getElem_of_mem hx
    rw [List.length_take] at hj
    refine ⟨j, by omega, ?_⟩
    rw [List.getD_eq_getElem?_getD, List.getElem?_eq_getElem (by omega)]
    rw [List.getElem_take] at he
    exact blOf_inj he
  · rintro ⟨j, hj, rfl⟩
    refine ⟨L.getD j ⟨#[]⟩, ?_, rfl⟩
    rw [List.getD_eq_getElem?_getD, List.getElem?_eq_getElem (by omega)]
    show L[j] ∈ L.take k
    rw [List.mem_take_iff_getElem]
    exact ⟨j, by omega, rfl⟩
set_option maxRecDepth 100000 in
set_option maxHeartbeats 2000000 in
theorem f_options (v : Value) (L : List ByteArray) (S : Nat → Prop) (w : World) (hv : TxsAt w S v L) (hS : ∀ b, S b → b < w.heap.size) (hl : L.length ≤ 1000000) (hs : ∀ k, k < L.length → (L.getD k ⟨#[]⟩).size ≤ 9223372036854775807) :
    Calls Tryz.prog 68 #[v] w fun e w' => e = .returned (.bool (optsB L)) ∧ w = w' := by
  obtain ⟨A, n, c, rfl, hn, hnc, hc⟩ := hv
  obtain ⟨i0, hi, hz0, hz1, hz2⟩ := info_parts infoTx
  have hsl := fun (W : World) (i : Nat) (h : i ≤ c) => run_slice_hi (P := Tryz.prog) W 52 9 i0 Tryz.underlying52 hi A n c i h (i : Int) rfl
  have HSL := Lib.hid hsl
  have HC := Lib.hid hc
  have HN := Lib.hid hn
  have HSS := Lib.hid hs
  have HS := Lib.hid hS
  have hn1 : n ≤ 1000000 := by omega
  clear hsl hc hn hs hS hl hi hz0 hz1 hz2
  go_enter Tryz.func68, Tryz.ntmps68
  go_wp2_with fail
  go_loopw [7] (fun v7 wr => ∃ k : Nat, k ≤ n ∧ v7 = .int .i64 (k : Int) ∧ optGood L k ∧ w = wr) (fun v7 _ => n - (intOf v7).toNat)
  case atStart => exact ⟨0, by omega, rfl, fun i hi => absurd hi (Nat.not_lt_zero _), rfl⟩
  case round =>
    obtain ⟨k, hk, rfl, hg, rfl⟩ := hrel
    have HG := Lib.hid hg
    clear hg
    by_cases hlt : k < n
    · obtain ⟨b, off, rfl, hSb, hcell⟩ := HC.out (by omega)
      have hx := hcell k hlt
      have hst := strs_head (c := c) hcell HN.out (HS.out b hSb) k hk
      have hsz := HSS.out k (by have := HN.out; omega)
      have hfail : ∀ (h : ¬ (1 ≤ (L.getD k ⟨#[]⟩).size ∧ (L.getD k ⟨#[]⟩).size ≤ 256 ∧ ∀ j, j < k → L.getD j ⟨#[]⟩ ≠ L.getD k ⟨#[]⟩)), optsB L = false := fun h => optsB_false (by have := HN.out; omega) h
      have hgo := optGood_step HG.out
      have hhas := fun s => head_has (L := L) (k := k) (by have := HN.out; omega) (s := s)
      have hsl1 := fun (W : World) => HSL.out W k (by omega)
      obtain ⟨x, hxe⟩ : ∃ x, L.getD k ⟨#[]⟩ = x := ⟨_, rfl⟩
      rw [hxe] at hx hsz hfail hgo
      have HST := Lib.hid hst
      have HF := Lib.hid hfail
      have HGO := Lib.hid hgo
      have HH := Lib.hid hhas
      have HXE := Lib.hid hxe
      clear hst hfail hgo hhas hxe hcell
      have zi : (k : Int) < (n : Int) := by omega
      have z0 : (0 : Int) ≤ (k : Int) := by omega
      by_cases h0 : x.size = 0
      · have he := HF.out (by omega)
        have HE := Lib.hid he
        obtain rfl := str_nil h0
        clear he h0
        go_wp2_with fail
        go_ret
        exact ⟨by rw [HE.out]; rfl, rfl⟩
      · obtain ⟨y1, y2, y3⟩ := str_ne h0
        by_cases h1 : x.size ≤ 256
        · have q1 : ¬ (256 : Int) < (x.size : Int) := by omega
          go_wp2_with fail
          refine (s_Contains _ _ x _ HST.out (by simp; omega)).mono ?_
          rintro e w1 ⟨rfl, rfl⟩
          by_cases hcn : ((L.take k).map blOf).contains (blOf x) = true
          · have he := HF.out (fun h => by
              obtain ⟨j, hj, e⟩ := (HH.out x).1 hcn
              exact h.2.2 j hj e)
            have HE := Lib.hid he
            rw [hcn]
            clear he hcn
            go_wp2_with fail
            go_ret
            exact ⟨by rw [HE.out]; rfl, rfl⟩
          · have hgg := HGO.out (by omega) h1 (fun j hj e => hcn ((HH.out x).2 ⟨j, hj, e⟩))
            have HGG := Lib.hid hgg
            have hcn' : ((L.take k).map blOf).contains (blOf x) = false := by simpa using hcn
            rw [hcn']
            clear hgg hcn hcn'
            go_wp2_with fail
            go_roundw
            case measure => simp [intOf]; omega
            case rel => exact ⟨k + 1, by omega, by go_num, HGG.out, by first | rfl | trivial⟩
        · have q1 : (256 : Int) < (x.size : Int) := by omega
          have he := HF.out (fun h => h1 h.2.1)
          have HE := Lib.hid he
          clear he
          go_wp2_with fail
          go_ret
          exact ⟨by rw [HE.out]; rfl, rfl⟩
    · have zi : ¬ (k : Int) < (n : Int) := by omega
      have he : optsB L = decide (1 ≤ n ∧ n ≤ 16) := by
        have h1 := HG.out
        rw [show k = L.length by have := HN.out; omega] at h1
        rw [optsB_end h1, HN.out]
      have HE := Lib.hid he
      clear he
      by_cases h1 : 1 ≤ n
      · have q1 : (1 : Int) ≤ (n : Int) := by omega
        by_cases h2 : n ≤ 16
        · have q2 : (n : Int) ≤ 16 := by omega
          go_wp2_with fail
          go_ret
          exact ⟨by rw [HE.out, decide_eq_true ⟨h1, h2⟩]; rfl, rfl⟩
        · have q2 : ¬ (n : Int) ≤ 16 := by omega
          go_wp2_with fail
          go_ret
          exact ⟨by rw [HE.out, decide_eq_false (fun h => h2 h.2)]; rfl, rfl⟩
      · have q1 : ¬ (1 : Int) ≤ (n : Int) := by omega
        go_wp2_with fail
        go_ret
        exact ⟨by rw [HE.out, decide_eq_false (fun h => h1 h.1)]; rfl, rfl⟩
end Go.Proofs.YtaljcojkcgjmcaaGreatDoor
namespace Go.Proofs.YtaljcojkcgjmcaaGreatDoor
open Go.RowKit Num

theorem infoAn : (Tryz.prog.info? 56).map (fun i => (i.zero, i.size, i.bytes)) = some (some (.agg #[.string ⟨#[]⟩, .string ⟨#[]⟩, .int .i64 0]), 3, 40) := by kernel_rfl
theorem infoSw : (Tryz.prog.info? 58).map (fun i => (i.zero, i.size, i.bytes)) = some (some (.agg #[.string ⟨#[]⟩, .string ⟨#[]⟩]), 2, 32) := by kernel_rfl
/-- One of some words, by the dice. -/
theorem k_WordL (b g : Nat) (L : List ByteArray) (n : Nat) (w : World) (hd : Dc w b) (hne : g ≠ b) (hb : Blk w g 9 (L.map Value.string).toArray) (hn : L.length = n) (h1 : 1 ≤ n) (h2 : n ≤ 1000) (hs : ∀ x ∈ L, x.size ≤ 1000) :
    Calls Tryz.prog 14 #[.pointer (some ⟨b, 0, none⟩), .slice (some ⟨g, 0, none⟩) n n] w fun e w' => ∃ x : ByteArray, x.size ≤ 1000 ∧ e = .returned (.string x) ∧ Dc w' b ∧ w.grownBy w' (some b) := by
  refine (k_WordK b g 0 n n (fun i => L.getD i ⟨#[]⟩) w hd hb.lt hne h1 (by omega) (fun i hi => ?_)).mono ?_
  · rw [Nat.zero_add, hb.cell i]
    have hl : i < L.length := by omega
    simp [List.getD_eq_getElem?_getD, List.getElem?_eq_getElem hl]
  · rintro e w' ⟨r, hr, rfl, hd', hg'⟩
    refine ⟨_, ?_, rfl, hd', hg'⟩
    have hl : r < L.length := by omega
    show (L.getD r ⟨#[]⟩).size ≤ 1000
    rw [List.getD_eq_getElem?_getD, List.getElem?_eq_getElem hl]
    exact hs _ (List.getElem_mem hl)
/-- The same while a statement is made. -/
theorem GSt.word {w W : World} {db tb : Nat} {s : Stm} {va vc vs : Value} (h : GSt w W db tb s va vc vs) {g : Nat} (L : List ByteArray) (n : Nat) (hb : Blk W g 9 (L.map Value.string).toArray) (hg : db < g) (hn : L.length = n) (h1 : 1 ≤ n) (h2 : n ≤ 1000) (hs : ∀ x ∈ L, x.size ≤ 1000) :
    Calls Tryz.prog 14 #[.pointer (some ⟨db, 0, none⟩), .slice (some ⟨g, 0, none⟩) n n] W fun e W' => ∃ x : ByteArray, x.size ≤ 1000 ∧ e = .returned (.string x) ∧ GSt w W' db tb s va vc vs ∧ W.grownBy W' (some db) :=
  (k_WordL db g L n W h.dc (by omega) hb hn h1 h2 hs).mono fun e W' hh => by
    obtain ⟨x, hx, he, hd, hg⟩ := hh
    exact ⟨x, hx, he, h.dice hd hg, hg⟩
theorem GSt.lt {w W : World} {db tb : Nat} {s : Stm} {va vc vs : Value} (h : GSt w W db tb s va vc vs) : db < W.heap.size ∧ tb < W.heap.size ∧ w.heap.size < W.heap.size := ⟨h.dc.lt, h.blk.lt, h.res.lt⟩
end Go.Proofs.YtaljcojkcgjmcaaGreatDoor
