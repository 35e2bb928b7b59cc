/- Plain numbers: powers modulo a number by squares. No program stands in it. And more. -/
import Derived.KernelRfl
import Derived.Test.YtgdngfdeeadlnaaGreatDoorRows
import Derived.WalkKit
import Derived.WalkSpells
import Derived.WalkLawsBesides
import Derived.Deep.QuietTactic
import Derived.BigQuiet
import Derived.Lib.Hide
import Derived.Laws.BitsLemmas
import Derived.BigRegion
import Derived.Maps.AppendAt
import Derived.Deep.AppendLies
import Derived.Deep.RegionHeld3
import Derived.RegionTactic
import Derived.OwnWalk
import Derived.Laws.OwnMore
set_option linter.unusedVariables false
set_option linter.unusedSimpArgs false
namespace Go.Proofs.YtgdngfdeeadlnaaGreatDoor.Num
def Prm (p : Nat) : Prop := 2 ≤ p ∧ ∀ d,d ∣ p → d = 1 ∨ d = p
/- Fermat's small theorem, by the binomial numbers. -/
def ch : Nat → Nat → Nat
 | _,0 => 1
 | 0,_+1 => 0
 | n+1,k+1 => ch n k+ch n (k+1)
def bs (n a : Nat) : Nat → Nat
 | 0 => 0
 | k+1 => bs n a k+ch n k*a ^ k
theorem prm_dvd {p a b : Nat} (h : Prm p) (hd : p ∣ a * b) : p ∣ a ∨ p ∣ b := by
 rcases h.2 _ (Nat.gcd_dvd_right a p) with e | e
 ·right; exact Nat.Coprime.dvd_of_dvd_mul_left (Nat.Coprime.symm e) hd
 ·left; rw [← e]; exact Nat.gcd_dvd_left a p
end Go.Proofs.YtgdngfdeeadlnaaGreatDoor.Num
namespace Go.Proofs.YtgdngfdeeadlnaaGreatDoor.Num
def Cg (p a b : Int) : Prop := a % p = b % p
theorem Cg.refl (p a : Int) : Cg p a a := rfl
theorem Cg.symm {p a b : Int} (h : Cg p a b) : Cg p b a := Eq.symm h
theorem Cg.trans {p a b c : Int} (h : Cg p a b) (k : Cg p b c) : Cg p a c := Eq.trans h k
theorem Cg.add {p a b c d : Int} (h : Cg p a b) (k : Cg p c d) : Cg p (a + c) (b + d) := by
 unfold Cg at *; rw [Int.add_emod,h,k,← Int.add_emod]
theorem Cg.eq {p a b : Int} (h : Cg p a b) (ha : 0 ≤ a) (ha' : a < p) (hb : 0 ≤ b) (hb' : b < p) : a = b := by
 unfold Cg at h; rwa [Int.emod_eq_of_lt ha ha',Int.emod_eq_of_lt hb hb'] at h
theorem prm_dvd_int {p : Nat} (h : Prm p) {a b : Int} (hd : (p : Int) ∣ a * b) : (p : Int) ∣ a ∨ (p : Int) ∣ b := by
 rw [← Int.natAbs_dvd_natAbs,Int.natAbs_mul,Int.natAbs_natCast] at hd
 rcases prm_dvd h hd with k | k
 ·left; exact Int.natAbs_dvd_natAbs.1 (by rwa [Int.natAbs_natCast])
 ·right; exact Int.natAbs_dvd_natAbs.1 (by rwa [Int.natAbs_natCast])
def ev : List Int → Int → Int
 | [],_ => 0
 | c :: l,x => c+x*ev l x
def dv (a : Int) : List Int → List Int
 | [] => []
 | [_] => []
 | _ :: l => ev l a :: dv a l
theorem dv_len (a : Int) : ∀ l,(dv a l).length = l.length - 1 := by
 intro l
 induction l with
 | nil => rfl
 | cons c l ih =>
  cases l with
  | nil => rfl
  | cons d l =>
   show (dv a (d :: l)).length+1=_
   rw [ih]; simp
theorem dv_ev (a x : Int) : ∀ l,ev l x = ev (dv a l) x * (x - a) + ev l a := by
 intro l
 induction l with
 | nil => simp [ev,dv]
 | cons c l ih =>
  cases l with
  | nil => simp [ev,dv]
  | cons d l =>
   show c+x*ev (d :: l) x=(ev (d :: l) a+x*ev (dv a (d :: l)) x)*(x - a)+(c+a*ev (d :: l) a)
   rw [ih]
   generalize ev (dv a (d :: l)) x=q
   generalize ev (d :: l) a=r
   simp only [Int.mul_add,Int.add_mul,Int.mul_sub,Int.sub_mul]
   have e1:x*(q*x)=x*q*x:=by rw [Int.mul_assoc]
   have e2:x*(q*a)=x*q*a:=by rw [Int.mul_assoc]
   rw [e1,e2,Int.mul_comm r x,Int.mul_comm r a]; omega
def Apart (p : Int) : List Int → Prop
 | [] => True
 | x :: l => (∀ y ∈ l,¬ p ∣ y - x) ∧ Apart p l
theorem roots {p : Nat} (hp : Prm p) : ∀ (xs l : List Int),l.length ≤ xs.length → Apart p xs → (∀ x ∈ xs,(p : Int) ∣ ev l x) → ∀ x,(p : Int) ∣ ev l x := by
 intro xs
 induction xs with
 | nil =>
  intro l hl _ _ x
  have:l = []:=List.eq_nil_of_length_eq_zero (by simpa using hl)
  subst this; exact Int.dvd_zero _
 | cons a xs ih =>
  intro l hl hA hr x
  rw [dv_ev a x l]
  refine Int.dvd_add ?_ (hr a (by simp))
  refine Int.dvd_trans (ih (dv a l) ?_ hA.2 ?_ x) (Int.dvd_mul_right _ _)
  ·rw [dv_len]; simp at hl; omega
  ·intro y hy
   have h1:=hr y (by simp [hy])
   rw [dv_ev a y l] at h1
   have h2:(p:Int) ∣ ev (dv a l) y*(y - a):=by
    have:=Int.dvd_sub h1 (hr a (by simp))
    rwa [Int.add_sub_cancel] at this
   rcases prm_dvd_int hp h2 with k | k
   ·exact k
   ·exact absurd k (hA.1 y hy)
def IsP (n : Nat) (g : Int → Int) : Prop := ∃ l : List Int,l.length ≤ n ∧ ∀ x,g x = ev l x
theorem IsP.mono {n m : Nat} {g : Int → Int} (h : IsP n g) (hm : n ≤ m) : IsP m g := by
 obtain ⟨l,hl,hg⟩:=h; exact ⟨l,by omega,hg⟩
def addL : List Int → List Int → List Int
 | [],m => m
 | l,[] => l
 | a :: l,b :: m => (a+b) :: addL l m
theorem addL_ev (x : Int) : ∀ l m,ev (addL l m) x = ev l x + ev m x := by
 intro l
 induction l with
 | nil => intro m; cases m <;> simp [addL,ev]
 | cons a l ih =>
  intro m
  cases m with
  | nil => simp [addL,ev]
  | cons b m =>
   show (a+b)+x*ev (addL l m) x=(a+x*ev l x)+(b+x*ev m x)
   rw [ih,Int.mul_add]; omega
theorem addL_len : ∀ l m,(addL l m).length = max l.length m.length := by
 intro l
 induction l with
 | nil => intro m; cases m <;> simp [addL]
 | cons a l ih =>
  intro m
  cases m with
  | nil => simp [addL]
  | cons b m => simp [addL,ih]; try omega
theorem IsP.add {n : Nat} {g h : Int → Int} (hg : IsP n g) (hh : IsP n h) : IsP n fun x => g x + h x := by
 obtain ⟨l,hl,hg⟩:=hg
 obtain ⟨m,hm,hh⟩:=hh
 exact ⟨addL l m,by rw [addL_len]; omega,fun x => by show g x+h x=_; rw [addL_ev,hg,hh]⟩
end Go.Proofs.YtgdngfdeeadlnaaGreatDoor.Num
namespace Go.Proofs.YtgdngfdeeadlnaaGreatDoor
open Go.RowKit Num
theorem emod_tmod (n p : Int) : n % p = n.tmod p % p := by
 conv => lhs; rw [← Int.mul_tdiv_add_tmod n p,Int.add_comm,Int.add_mul_emod_self_left]
theorem ret_int {k : IntKind} {a b : Int} (h : a = b) : Ending.returned (.int k a) = .returned (.int k b) := by rw [h]
theorem int_eq {k : IntKind} {a b : Int} (h : a = b) : Value.int k a = .int k b := by rw [h]
theorem ret_bool {a b : Bool} (h : a = b) : Ending.returned (.bool a) = .returned (.bool b) := by rw [h]
theorem below_dn {n : Nat} {w w' : World} (h : Below n w w') (k : Nat) : Below n w (w'.drewN k) := by
 exact ⟨h.os,h.tape,h.output,h.size,h.block⟩
end Go.Proofs.YtgdngfdeeadlnaaGreatDoor
namespace Go.Proofs.YtgdngfdeeadlnaaGreatDoor.Num
open Classical
end Go.Proofs.YtgdngfdeeadlnaaGreatDoor.Num
namespace Go.Proofs.YtgdngfdeeadlnaaGreatDoor
open Go.RowKit Num
theorem only_of_below {a w : World} (h : Below a.heap.size a w) (row : Option Nat) : a.grownBy w row := ⟨h.os,h.tape,h.output,h.size,fun i hi _ => h.block i hi⟩
theorem only_drewN {a w : World} {row : Option Nat} (h : a.grownBy w row) (n : Nat) : a.grownBy (w.drewN n) row := ⟨h.os,h.tape,h.output,h.size,h.block⟩
theorem only_setCell {a w : World} {g : Nat} (h : a.grownBy w (some g)) {p : Addr} (hp : p.block = g ∨ a.heap.size ≤ p.block) (u : Value) : a.grownBy (w.setCell p u) (some g) :=
 ⟨h.os,h.tape,h.output,by simpa [World.setCell] using h.size,fun i hi hne => (Below.heap_setCell w p u i (by
  rintro rfl
  rcases hp with hp | hp
  ·exact hne (by rw [hp])
  ·omega)).trans (h.block i hi hne)⟩
def rot (x : Int) (n : Nat) : Int := bits .or .u32 (x * ((2 ^ (32 - n) : Nat) : Int) % 4294967296) (x / ((2 ^ n : Nat) : Int))
structure Arr (w : World) (B n : Nat) (f : Nat → Int) : Prop where
  cell : ∀ i, i < n → w.cell? ⟨B, i, none⟩ = some (.int .u32 (f i))
  live : ∀ i, i < n → w.frozen? ⟨B, i, none⟩ = false
theorem Arr.set {w : World} {B n : Nat} {f g : Nat → Int} (h : Arr w B n f) {i : Nat} {v : Int} (hi : i < n) (hv : v = g i) (hg : ∀ j,j < n → j ≠ i → g j = f j) : Arr (w.setCell ⟨B,i,none⟩ (.int .u32 v)) B n g := by
 refine ⟨fun j hj => ?_,fun j hj => ?_⟩
 ·by_cases hji:j=i
  ·subst hji; rw [World.cell?_setCell_same _ _ _ (h.cell j hj),hv]
  ·rw [World.cell?_setCell_other _ _ _ _ (by intro e; injection e with e1 e2; exact hji e2.symm),h.cell j hj,hg j hj hji]
 ·rw [World.frozen?_setCell]; exact h.live j hj
theorem Arr.drewN {w : World} {B n : Nat} {f : Nat → Int} (h : Arr w B n f) (k : Nat) : Arr (w.drewN k) B n f := ⟨h.cell,h.live⟩
theorem Arr.below {w w' : World} {B n m : Nat} {f : Nat → Int} (h : Arr w B n f) (hb : Below m w w') (hB : B < m) : Arr w' B n f :=
 ⟨fun j hj => by rw [hb.cell (by exact hB)]; exact h.cell j hj,fun j hj => by rw [hb.frozen (by exact hB)]; exact h.live j hj⟩
theorem Arr.alloc {w : World} {B n : Nat} {f : Nat → Int} (h : Arr w B n f) (hB : B < w.heap.size) (o : Obj) : Arr (w.alloc o) B n f :=
 h.below ((Below.refl _ _).alloc (Nat.le_refl _) _) hB
def rT1 (f : Nat → Int) (k w : Int) : Int := (f 7 + bits .xor .u32 (bits .xor .u32 (rot (f 4) 6) (rot (f 4) 11)) (rot (f 4) 25) + bits .xor .u32 (bits .and .u32 (f 4) (f 5)) (bits .and .u32 (bits .xor .u32 IntKind.u32.max (f 4)) (f 6)) + k + w) % 4294967296
def rT2 (f : Nat → Int) : Int := (bits .xor .u32 (bits .xor .u32 (rot (f 0) 2) (rot (f 0) 13)) (rot (f 0) 22) + bits .xor .u32 (bits .xor .u32 (bits .and .u32 (f 0) (f 1)) (bits .and .u32 (f 0) (f 2))) (bits .and .u32 (f 1) (f 2))) % 4294967296
def rndF (f : Nat → Int) (k w : Int) : Nat → Int
 | 0 => (rT1 f k w+rT2 f) % 4294967296
 | 1 => f 0
 | 2 => f 1
 | 3 => f 2
 | 4 => (f 3+rT1 f k w) % 4294967296
 | 5 => f 4
 | 6 => f 5
 | _ => f 6
def rst (K W v : Nat → Int) : Nat → Nat → Int
 | 0 => v
 | t+1 => rndF (rst K W v t) (K t) (W t)
def fin (v r : Nat → Int) (t : Nat) : Nat → Int := fun i => if i < t then (v i + r i) % 4294967296 else v i
def Blk (w : World) (g : Nat) (t : TypeId) (cs : Array Value) : Prop := w.heap[g]? = some (.cells cs t (0,0))
section
variable {w w' : World} {g : Nat} {t : TypeId} {cs : Array Value}
theorem Blk.lt (h : Blk w g t cs) : g < w.heap.size := by
 rcases Nat.lt_or_ge g w.heap.size with hlt | hge
 ·exact hlt
 ·unfold Blk at h; rw [Array.getElem?_eq_none hge] at h; cases h
theorem Blk.cell (h : Blk w g t cs) (i : Nat) : w.cell? ⟨g,i,none⟩ = cs[i]? := cell_of_row w g i cs t (0,0) h
theorem Blk.frozen (h : Blk w g t cs) (i : Nat) : w.frozen? ⟨g,i,none⟩ = false := by
 unfold Blk at h
 simp [World.frozen?,h]
theorem Blk.new (w : World) (t : TypeId) (cs : Array Value) : Blk (w.alloc (.cells cs t)) w.heap.size t cs := heap_alloc_new w _
theorem Blk.drew (h : Blk w g t cs) : Blk w.drew g t cs := h
theorem Blk.drewN (h : Blk w g t cs) (n : Nat) : Blk (w.drewN n) g t cs := h
theorem Blk.alloc (h : Blk w g t cs) (o : Obj) : Blk (w.alloc o) g t cs := (Below.heap_alloc w o g h.lt).trans h
theorem Blk.set_ (h : Blk w g t cs) (i : Nat) (u : Value) : Blk (w.setCell ⟨g,i,none⟩ u) g t (cs.setIfInBounds i u) := by
 unfold Blk at h ⊢
 simp [World.setCell,Array.getElem?_modify,h]
end
def Dc (w : World) (b : Nat) : Prop := ∃ (A : Option Addr) (n c k : Nat) (L : Nat → Int),Blk w b 77 #[.slice A n c,.int .i64 (k : Int)] ∧ n ≤ 500 ∧ k ≤ n ∧
 (0 < n → ∃ b0 off,A=some ⟨b0,off,none⟩ ∧ b0 < b ∧ ∀ i,i < n → w.cell? ⟨b0,off+i,none⟩=some (.int .i64 (L i)))
theorem Dc.lt {w : World} {b : Nat} (h : Dc w b) : b < w.heap.size := by
 obtain ⟨A,n,c,k,L,hb,_⟩:=h; exact hb.lt
theorem Dc.keep {w w' : World} {b : Nat} (h : Dc w b) (hk : ∀ i,i ≤ b → w'.heap[i]? = w.heap[i]?) : Dc w' b := by
 obtain ⟨A,n,c,k,L,hb,h1,h2,h3⟩:=h
 refine ⟨A,n,c,k,L,(hk b (Nat.le_refl b)).trans hb,h1,h2,fun hn => ?_⟩
 obtain ⟨b0,off,hA,hlt,hc⟩:=h3 hn
 exact ⟨b0,off,hA,hlt,fun i hi => (World.cell?_of_block (hk b0 (by omega))).trans (hc i hi)⟩
theorem Dc.below {w w' : World} {b B : Nat} (h : Dc w b) (hb : Below B w w') (hB : b < B) : Dc w' b := h.keep fun i hi => hb.block i (by omega)
theorem Dc.alloc {w : World} {b : Nat} (h : Dc w b) (o : Obj) : Dc (w.alloc o) b := h.below ((Below.refl _ _).alloc (Nat.le_refl _) _) h.lt
theorem Dc.drew {w : World} {b : Nat} (h : Dc w b) : Dc w.drew b := h
theorem Dc.drewN {w : World} {b : Nat} (h : Dc w b) (n : Nat) : Dc (w.drewN n) b := h
def ArgL (w : World) (v : Value) : Prop := ∃ (A : Option Addr) (n c : Nat) (L : Nat → Int),v = .slice A n c ∧ n ≤ 500 ∧
 (0 < n → ∃ b0 off,A=some ⟨b0,off,none⟩ ∧ b0 < w.heap.size ∧ ∀ i,i < n → w.cell? ⟨b0,off+i,none⟩=some (.int .i64 (L i)))
set_option maxHeartbeats 400000 in
theorem k_Mod (n m : Int) (w : World) (h1 : 1 ≤ m) (h2 : m ≤ 2305843009213693952) :
  Calls Tryz.prog 29 #[.int .i64 n,.int .i64 m] w fun e w' => e=.returned (.int .i64 (n % m)) ∧ w=w':=by
 have ht:=Int.tmod_lt_of_pos n (b:=m) (by omega)
 have ht':-m < n.tmod m:=Int.lt_tmod_of_pos n (by omega)
 go_enter Tryz.func29,Tryz.ntmps29
 go_wp2
 go_ret
 refine ⟨ret_int ?_,rfl⟩
 have e:(n.tmod m+m).tmod m=(n.tmod m+m) % m:=Int.tmod_eq_emod_of_nonneg (by omega)
 first | (rw [e,Int.add_emod_right,← emod_tmod]) | (rw [Int.add_emod_right,← emod_tmod]) | (rw [← emod_tmod])
set_option maxHeartbeats 400000 in
theorem k_Light (A : Option Addr) (n c : Nat) (w : World) (h : n ≤ 9223372036854775807) :
  Calls Tryz.prog 6 #[.slice A n c] w fun e w' => e=.returned (.bool (decide ((n:Int) ≤ 500))) ∧ w=w':=by
 go_enter Tryz.func6,Tryz.ntmps6
 go_wp2
 go_ret
 exact ⟨by simp,rfl⟩
set_option maxHeartbeats 400000 in
theorem k_Roll (v : Value) (w : World) (h : ArgL w v) :
  Calls Tryz.prog 9 #[v] w fun e w' => e=.returned (.pointer (some ⟨w.heap.size,0,none⟩)) ∧ Dc w' w.heap.size ∧ Below w.heap.size w w':=by
 obtain ⟨A,n,c,L,rfl,h1,h2⟩:=h
 go_enter Tryz.func9,Tryz.ntmps9
 go_wp2
 go_ret
 refine ⟨rfl,⟨A,n,c,0,L,Blk.new _ _ _,h1,Nat.zero_le _,fun hn => ?_⟩,(Below.refl _ _).alloc (Nat.le_refl _) _⟩
 obtain ⟨b0,off,hA,hlt,hc⟩:=h2 hn
 exact ⟨b0,off,hA,hlt,fun i hi => (World.cell?_alloc_lt w _ ⟨b0,off+i,none⟩ hlt).trans (hc i hi)⟩
def NextPost (b n : Nat) (w : World) (e : Ending) (w' : World) : Prop := ∃ r : Nat,r < n ∧ e = .returned (.int .i64 (r : Int)) ∧ Dc w' b ∧ w.grownBy w' (some b)
theorem quiet_left' {P : Program} {f : FuncId} {args : Array Value} {w : World} {n : Nat} {v : Value}
  (h:Calls P f args (w.drewN n) fun e w' => e=.returned v ∧ w.drewN n=w'):Calls P f args (w.drewN n) fun e w'' => e=.returned v ∧ ∃ m,w''=w.drewN m :=
 h.mono fun _ _ ⟨he,hm⟩ => ⟨he,n,hm.symm⟩
set_option maxHeartbeats 1000000 in
theorem k_Next (b n : Nat) (w : World) (hd : Dc w b) (h1 : 1 ≤ n) (h2 : n ≤ 2305843009213693952) :
  Calls Tryz.prog 33 #[.pointer (some ⟨b,0,none⟩),.int .i64 (n:Int)] w (NextPost b n w):=by
 obtain ⟨A,m,c,k,L,hb,hm,hk,hL⟩:=id hd
 have c0:w.cell? ⟨b,0,none⟩=some (.slice A m c):=hb.cell 0
 have c1:w.cell? ⟨b,1,none⟩=some (.int .i64 (k:Int)):=hb.cell 1
 have f1:=hb.frozen 1
 by_cases hkm:k < m
 ·obtain ⟨b0,off,rfl,hlt,hc⟩:=hL (by omega)
  have ck:=hc k hkm
  have hne:(⟨b,1,none⟩:Addr) ≠ ⟨b0,off+k,none⟩:=by intro e; injection e with e1; omega
  have c0':(w.setCell ⟨b,1,none⟩ (.int .i64 ((k:Int)+1))).cell? ⟨b,0,none⟩=some (.slice (some ⟨b0,off,none⟩) m c):=by
   rw [World.cell?_setCell_other _ _ _ _ (by intro e; injection e with e1 e2; cases e2)]; exact c0
  have ck':(w.setCell ⟨b,1,none⟩ (.int .i64 ((k:Int)+1))).cell? ⟨b0,off+k,none⟩=some (.int .i64 (L k)):=by
   rw [World.cell?_setCell_other _ _ _ _ hne]; exact ck
  have HC:=Lib.hid hc
  have HB:=Lib.hid hb
  clear hc hb hL
  go_enter Tryz.func33,Tryz.ntmps33
  go_wp2_with fail
  go_quiet (fail)
  go_wp2_with fail
  have hB2:Blk ((w.drewN nq).setCell ⟨b,1,none⟩ (.int .i64 ((k:Int)+1))) b 77 #[.slice (some ⟨b0,off,none⟩) m c,.int .i64 ((k:Int)+1)]:=(HB.out.drewN nq).set_ 1 _
  have hg2:w.grownBy ((w.drewN nq).setCell ⟨b,1,none⟩ (.int .i64 ((k:Int)+1))) (some b):=only_setCell (only_drewN (World.grownBy.refl w _) _) (.inl rfl) _
  generalize hwq:(w.drewN nq).setCell ⟨b,1,none⟩ (.int .i64 ((k:Int)+1))=wq at *
  have d0:wq.cell? ⟨b,0,none⟩=some (.slice (some ⟨b0,off,none⟩) m c):=hB2.cell 0
  have d1:wq.cell? ⟨b,1,none⟩=some (.int .i64 ((k:Int)+1)):=hB2.cell 1
  have dk:wq.cell? ⟨b0,off+k,none⟩=some (.int .i64 (L k)):=(World.cell?_of_block (hg2.block b0 (by have:=HB.out.lt; omega) (by simp; omega))).trans (HC.out k hkm)
  have q1:(0:Int) ≤ (k:Int):=by omega
  have q2:(k:Int) < (m:Int):=by omega
  clear hwq c0 c1 f1 ck c0' ck' hne
  go_quiet ((go_at_call 29; exact quiet_left' (k_Mod _ _ _ (by omega) (by omega))))
  go_wp2_with fail
  go_ret
  have r0:=Int.emod_nonneg (L k) (show (n:Int) ≠ 0 by omega)
  have r1:=Int.emod_lt_of_pos (L k) (show (0:Int) < (n:Int) by omega)
  refine ⟨((L k) % (n:Int)).toNat,by omega,?_,?_,only_drewN hg2 _⟩
  ·show Ending.returned (.int .i64 (L k % (n:Int)))=_
   rw [Int.toNat_of_nonneg r0]
  ·refine Dc.drewN ⟨_,m,c,k+1,L,?_,hm,by omega,fun _ => ⟨b0,off,rfl,hlt,fun i hi => ?_⟩⟩ _
   ·have:=hB2; rwa [show ((k:Int)+1)=((k+1:Nat):Int) by omega] at this
   ·exact (World.cell?_of_block (hg2.block b0 (by have:=HB.out.lt; omega) (by simp; omega))).trans (HC.out i hi)
 ·go_enter Tryz.func33,Tryz.ntmps33
  have hd2:=Lib.hid hd
  clear hL hb hd
  go_wp2_with fail
  go_quiet (fail)
  go_wp2_with fail
  go_ret
  exact ⟨0,by omega,rfl,hd2.out.drewN _,only_drewN (World.grownBy.refl w _) _⟩
theorem gb_trans {a b c : World} {g : Nat} (h : a.grownBy b (some g)) (k : b.grownBy c (some g)) : a.grownBy c (some g) :=
 ⟨k.os.trans h.os,k.tape.trans h.tape,k.output.trans h.output,Nat.le_trans h.size k.size,fun i hi hn => (k.block i (Nat.lt_of_lt_of_le hi h.size) hn).trans (h.block i hi hn)⟩
def IntsAt (w : World) (S : Nat → Prop) (v : Value) (xs : List Int) : Prop :=
 ∃ (A:Option Addr) (n c:Nat),v=.slice A n c ∧ n=xs.length ∧ n ≤ c ∧ (0 < n → ∃ b off,A=some ⟨b,off,none⟩ ∧ S b ∧ ∀ k,k < n → w.cell? ⟨b,off+k,none⟩=some (.int .i64 (xs.getD k 0)))
theorem IntsAt.keep {w w' : World} {S : Nat → Prop} {v : Value} {xs : List Int} (h : IntsAt w S v xs) (hk : ∀ b,S b → w'.heap[b]? = w.heap[b]?) : IntsAt w' S v xs := by
 obtain ⟨A,n,c,h1,h2,h3,h4⟩:=h
 refine ⟨A,n,c,h1,h2,h3,fun hn => ?_⟩
 obtain ⟨b,off,hA,hS,hc⟩:=h4 hn
 exact ⟨b,off,hA,hS,fun k hk' => (World.cell?_of_block (hk b hS)).trans (hc k hk')⟩
theorem IntsAt.mono {w : World} {S T : Nat → Prop} {v : Value} {xs : List Int} (h : IntsAt w S v xs) (hk : ∀ b,S b → T b) : IntsAt w T v xs := by
 obtain ⟨A,n,c,h1,h2,h3,h4⟩:=h
 refine ⟨A,n,c,h1,h2,h3,fun hn => ?_⟩
 obtain ⟨b,off,hA,hS,hc⟩:=h4 hn
 exact ⟨b,off,hA,hk b hS,hc⟩
theorem IntsAt.below {w w' : World} {B : Nat} {v : Value} {xs : List Int} (h : IntsAt w (· < B) v xs) (hb : Below B w w') : IntsAt w' (· < B) v xs := h.keep fun b hB => hb.block b hB
theorem IntsAt.of_own {w : World} {B : Nat} {v : Value} {n : Nat} {xs : List Int} (h : w.ownsRow B 3 1 v n (xs.map (Value.int .i64))) : IntsAt w (fun b => B ≤ b ∧ b < w.heap.size) v xs := by
 have hl:n=xs.length:=by have:=h.1; simp at this; omega
 rcases h.2 with ⟨rfl,h0⟩ | ⟨g,cap,cur,rfl,hB,hh,hnc,hm,hs,ht⟩
 ·exact ⟨none,0,0,rfl,by omega,Nat.le_refl _,fun h => by omega⟩
 ·refine ⟨_,n,cap,rfl,hl,hnc,fun hn => ⟨g,0,rfl,⟨hB,(Array.getElem?_eq_some_iff.1 hh).1⟩,fun k hk => ?_⟩⟩
  have hc:=h.cells (g:=g) rfl k (.int .i64 (xs.getD k 0)) (by rw [List.getElem?_map,List.getElem?_eq_getElem (show k < xs.length by omega),List.getD_eq_getElem?_getD,List.getElem?_eq_getElem (show k < xs.length by omega)]; rfl)
  have ha:(⟨g,0,none⟩:Addr).add k=⟨g,0+k,none⟩:=by unfold Addr.add; split <;> simp_all
  rwa [ha] at hc
theorem block_of_add (a : Addr) (n : Nat) : (a.add n).block = a.block := by unfold Addr.add; split <;> rfl
theorem add_of_add (a : Addr) (i j : Nat) : (a.add i).add j = a.add (i + j) := by
 unfold Addr.add
 by_cases hi:i=0 <;> by_cases hj:j=0 <;> simp [hi,hj,Nat.add_assoc]
def Reads (w : World) (B size : Nat) (A : Option Addr) (n : Nat) (xs : List Value) : Prop :=
 xs.length=n*size ∧ (0 < n → ∃ ad,A=some ad ∧ ad.block < B ∧ ∀ j u,xs[j]?=some u → w.cell? (ad.add j)=some u)
section
variable {w w' : World} {B B' size n : Nat} {A : Option Addr} {xs : List Value}
theorem Reads.at_ {k : Nat} (h : Reads w B 1 A n xs) (hk : k < n) : ∃ ad u,A = some ad ∧ ad.block < B ∧ xs[k]? = some u ∧ w.cell? (ad.add k) = some u := by
 obtain ⟨ad,e,hb,hc⟩:=h.2 (by omega)
 have hl:k < xs.length:=by have:=h.1; omega
 exact ⟨ad,xs[k],e,hb,List.getElem?_eq_getElem hl,hc k _ (List.getElem?_eq_getElem hl)⟩
theorem Reads.keep (h : Reads w B size A n xs) (hk : ∀ p : Addr,p.block < B → w'.cell? p = w.cell? p) : Reads w' B size A n xs :=
 ⟨h.1,fun hn => by
  obtain ⟨ad,e,hb,hc⟩:=h.2 hn
  exact ⟨ad,e,hb,fun j u hu => (hk _ (by rw [block_of_add]; exact hb)).trans (hc j u hu)⟩⟩
theorem Reads.below (h : Reads w B size A n xs) (hb : Below B w w') : Reads w' B size A n xs := h.keep fun _ hp => hb.cell hp
theorem Reads.drewN (h : Reads w B size A n xs) (k : Nat) : Reads (w.drewN k) B size A n xs := h
theorem Reads.alloc (h : Reads w B size A n xs) (hB : B ≤ w.heap.size) (o : Obj) : Reads (w.alloc o) B size A n xs := h.keep fun p hp => World.cell?_alloc_lt w o p (by omega)
theorem Reads.setCell (h : Reads w B size A n xs) {p : Addr} (hB : B ≤ p.block) (u : Value) : Reads (w.setCell p u) B size A n xs :=
 h.keep fun q hq => World.cell?_setCell_other w p q u (fun e => by subst e; omega)
theorem Reads.cut (h : Reads w B size A n xs) {k cap : Nat} (hk : k ≤ n) (hc : n ≤ cap) :
  Reads w B size (if cap=k then A else A.map (·.add (k*size))) (n - k) (xs.drop (k*size)):=by
 refine ⟨by rw [List.length_drop,h.1,Nat.sub_mul],fun hn => ?_⟩
 obtain ⟨ad,rfl,hb,hcell⟩:=h.2 (by omega)
 rw [if_neg (by omega)]
 refine ⟨ad.add (k*size),rfl,by rw [block_of_add]; exact hb,fun j u hu => ?_⟩
 rw [add_of_add]
 exact hcell _ u (by rw [← hu,List.getElem?_drop])
theorem Reads.of_own {base : Nat} {e : TypeId} {c : Nat} (h : w.ownsRow base e size (.slice A n c) n xs) : Reads w w.heap.size size A n xs := by
 refine ⟨h.1,fun hn => ?_⟩
 obtain ⟨g,cap,hv,_,hlt⟩:=h.form hn
 have hA:A=some ⟨g,0,none⟩:=by injection hv
 subst hA
 exact ⟨_,rfl,hlt,h.cells (g:=g) rfl⟩
end
section
variable {P : Program} (w : World)
end
theorem own_ne {w : World} {B B' : Nat} {e e' : TypeId} {s s' n n' : Nat} {v v' : Value} {xs xs' : List Value} (h : w.ownsRow B e s v n xs) (h' : w.ownsRow B' e' s' v' n' xs') (hne : e ≠ e') : v.ownBlock = none ∨ v.ownBlock ≠ v'.ownBlock := by
 rcases h.2 with ⟨rfl,_⟩ | ⟨g,cap,cur,rfl,_,hh,_⟩
 ·exact .inl rfl
 ·right
  rcases h'.2 with ⟨rfl,_⟩ | ⟨g',cap',cur',rfl,_,hh',_⟩
  ·simp [Value.ownBlock]
  ·intro he
   have:g=g':=by simpa [Value.ownBlock] using he
   subst this
   rw [hh] at hh'
   injection hh' with hh'
   injection hh' with _ ht
   exact hne ht
end Go.Proofs.YtgdngfdeeadlnaaGreatDoor
