/- A part of the proofs of the laws of lifelinetop (TopNever, TopLost, TopRoom): contracts of functions that these laws reach. No condition of its own. -/
import Derived.Test.YtplaamfoeaaaiaaGreatDoorK02
import Derived.Test.YtplaamfoeaaaiaaGreatDoorK19
import Derived.Deep.RegionWith
import Derived.Deep.RegionHeld3
import Derived.Deep.DeepCutAuto
set_option maxRecDepth 100000
set_option maxHeartbeats 8000000
set_option linter.unusedVariables false
namespace Go.Proofs.YtplaamfoeaaaiaaGreatDoor
open Go.RowKit
open Go.ChangeMaps (setBlock)
theorem MkAt.of_only {w w' : World} {base M X n : Nat} {vs : Value} {cs : List UInt8} {ks : List Nat} (h : MkAt w base M X vs cs n) (ho : Only ks w w') (hM : M ∉ ks) (hX : X ∉ ks) (hv : ∀ g,vs.ownBlock = some g → g ∉ ks) : MkAt w' base M X vs cs n :=
 ⟨ho.heap h.str hM,ownsRow_only h.sets ho hv,ho.heap h.prs hX,h.sM,h.sX,Nat.le_trans h.bl ho.size,h.bM,h.bX⟩
theorem MkAt.of_none {w w' : World} {base M X n : Nat} {vs : Value} {cs : List UInt8} (h : MkAt w base M X vs cs n) (ho : Only [] w w') : MkAt w' base M X vs cs n := h.of_only ho (by simp) (by simp) (by simp)
def MkPost (w : World) (base M X : Nat) (vs : Value) (l : List UInt8) (e : Ending) (w' : World) : Prop :=
 ∃ A B vs',e = .returned (.agg #[.map (some A),.map (some B),.bool false]) ∧ w.heap.size ≤ A ∧ w.heap.size ≤ B ∧ OneMap w' A 0 ∧ OneMap w' B (l.length - 1 : Nat) ∧ MkAt w' base M X vs' l (l.length - 1) ∧ Only (M :: X :: ownL vs) w w' ∧ (∀ g,vs'.ownBlock = some g → vs.ownBlock = some g ∨ w.heap.size ≤ g)
theorem mk_one (base M X : Nat) (vs : Value) (c : UInt8) (w : World) (h : MkAt w base M X vs [] 0) : Calls Tryz.prog 125 #[.pointer (some ⟨M,0,none⟩),.agg (oneNode c)] w (MkPost w base M X vs [c]) := by
 refine (makeOne_any base M X vs [] 0 c w h (by simp)).mono ?_
 rintro e w' ⟨A,B,vs',rfl,h1,h2,h3,h4,h5,h6,h7⟩
 exact ⟨A,B,vs',rfl,h1,h2,h3,h4,h5,h6.weaken (fun b hb => by rcases List.mem_cons.1 hb with h' | h' <;> simp [h']),h7⟩
def KidsAt (g N : Nat) (kd n1 n2 n3 n4 : Int) (a : Option Addr) (m k : Nat) (c : UInt8) (w : World) : Prop :=
 w.heap[g]? = some (.cells (nodeA kd n1 n2 n3 n4 a m k ++ oneNode c) 227 (0,0)) ∧ w.heap[N]? = some (.cells (thenNode g) 227 (0,0))
theorem KidsAt.cells {g N : Nat} {kd n1 n2 n3 n4 : Int} {a : Option Addr} {m k : Nat} {c : UInt8} {w : World} (h : KidsAt g N kd n1 n2 n3 n4 a m k c w) :
  w.cell? ⟨N,5,none⟩ = some (.slice (some ⟨g,0,none⟩) 2 2) ∧ w.cell? ⟨g,0,none⟩ = some (.int .i64 kd) ∧ w.cell? ⟨g,1,none⟩ = some (.int .u64 n1) ∧ w.cell? ⟨g,2,none⟩ = some (.int .u64 n2) ∧ w.cell? ⟨g,3,none⟩ = some (.int .u64 n3) ∧ w.cell? ⟨g,4,none⟩ = some (.int .u64 n4) ∧ w.cell? ⟨g,5,none⟩ = some (.slice a m k) ∧ w.cell? ⟨g,6,none⟩ = some (.int .i64 1) ∧ w.cell? ⟨g,7,none⟩ = some (bitV c 0) ∧ w.cell? ⟨g,8,none⟩ = some (bitV c 1) ∧ w.cell? ⟨g,9,none⟩ = some (bitV c 2) ∧ w.cell? ⟨g,10,none⟩ = some (bitV c 3) ∧ w.cell? ⟨g,11,none⟩ = some (.slice none 0 0) :=
 ⟨cell_at h.2 rfl,cell_at h.1 rfl,cell_at h.1 rfl,cell_at h.1 rfl,cell_at h.1 rfl,cell_at h.1 rfl,cell_at h.1 rfl,cell_at h.1 rfl,cell_at h.1 rfl,cell_at h.1 rfl,cell_at h.1 rfl,cell_at h.1 rfl,cell_at h.1 rfl⟩
theorem KidsAt.of_only {g N : Nat} {kd n1 n2 n3 n4 : Int} {a : Option Addr} {m k : Nat} {c : UInt8} {w w' : World} {ks : List Nat} (h : KidsAt g N kd n1 n2 n3 n4 a m k c w) (ho : Only ks w w') (hg : g ∉ ks) (hN : N ∉ ks) : KidsAt g N kd n1 n2 n3 n4 a m k c w' := ⟨ho.heap h.1 hg,ho.heap h.2 hN⟩
theorem KidsAt.alloc {g N : Nat} {kd n1 n2 n3 n4 : Int} {a : Option Addr} {m k : Nat} {c : UInt8} {w : World} (h : KidsAt g N kd n1 n2 n3 n4 a m k c w) (o : Obj) : KidsAt g N kd n1 n2 n3 n4 a m k c (w.alloc o) := h.of_only ((Only.refl [] w).alloc o) (by simp) (by simp)
theorem KidsAt.drew {g N : Nat} {kd n1 n2 n3 n4 : Int} {a : Option Addr} {m k : Nat} {c : UInt8} {w : World} (h : KidsAt g N kd n1 n2 n3 n4 a m k c w) : KidsAt g N kd n1 n2 n3 n4 a m k c w.drew := ⟨h.1,h.2⟩
theorem KidsAt.set {g N P i : Nat} {kd n1 n2 n3 n4 : Int} {a : Option Addr} {m k : Nat} {c : UInt8} {w : World} (h : KidsAt g N kd n1 n2 n3 n4 a m k c w) (h1 : g ≠ P) (h2 : N ≠ P) (v : Value) : KidsAt g N kd n1 n2 n3 n4 a m k c (w.setCell ⟨P,i,none⟩ v) := h.of_only (only_set w P i v) (by simpa using h1) (by simpa using h2)
abbrev zeroPart : Obj := .cells #[.map none,.map none,.bool false] 271 (0,0)
theorem zero_cells {w : World} {P : Nat} (h : w.heap[P]? = some zeroPart) : w.cell? ⟨P,0,none⟩ = some (.map none) ∧ w.cell? ⟨P,1,none⟩ = some (.map none) ∧ w.cell? ⟨P,2,none⟩ = some (.bool false) ∧ w.frozen? ⟨P,0,none⟩ = false ∧ w.frozen? ⟨P,1,none⟩ = false ∧ w.frozen? ⟨P,2,none⟩ = false :=
 ⟨cell_at h rfl,cell_at h rfl,cell_at h rfl,free_at h,free_at h,free_at h⟩
theorem a1_ne {w : World} {M X n A : Nat} {vs : Value} {k : Int} (hX : Pairs w X n) (_ : w.heap[M]? = some (.cells #[vs,.map (some X)] 268 (0,0))) (hA : OneMap w A k) : A ≠ X := by
 intro e
 unfold OneMap at hA
 rw [e,hX] at hA
 simp only [Option.some.injEq,Obj.map.injEq] at hA
 obtain ⟨h1,h2⟩ := hA
 rw [h2] at h1
 have := congrArg (fun a => (a[0]?).map (·.key)) h1
 simp [pairsE] at this
theorem b2_ne {w : World} {X n m A : Nat} (hX : Pairs w X n) (_ : 0 < m) (hA : OneMap w A m) : A ≠ X := by
 intro e
 unfold OneMap at hA
 rw [e,hX] at hA
 simp only [Option.some.injEq,Obj.map.injEq] at hA
 obtain ⟨h1,h2⟩ := hA
 rw [h2] at h1
 have := congrArg (fun a => (a[0]?).map (·.key)) h1
 simp [pairsE] at this
def KidsDone (wb : World) (base M X : Nat) (vs : Value) (l : List UInt8) (c : UInt8) (W : Nat) (s6 s7 : Value) (wx : World) : Prop :=
 ∃ A1 B1 A2 B2 vs2 P6 P7,s6 = .pointer (some ⟨P6,0,none⟩) ∧ s7 = .pointer (some ⟨P7,0,none⟩) ∧ wx.heap[P6]? = some (.cells #[.map (some A1),.map (some B1),.bool false] 271 (0,0)) ∧ wx.heap[P7]? = some (.cells #[.map (some A2),.map (some B2),.bool false] 271 (0,0)) ∧
  OneMap wx A1 0 ∧ OneMap wx B1 (l.length - 1 : Nat) ∧ OneMap wx A2 l.length ∧ OneMap wx B2 l.length ∧ MkAt wx base M X vs2 (l ++ [c]) (l.length - 1) ∧ Only (M :: X :: ownL vs) wb wx ∧ (∀ g,vs2.ownBlock = some g → vs.ownBlock = some g ∨ W ≤ g)
def Spare (w : World) (P : Nat) : Prop := w.heap.size ≤ P ∨ w.heap[P]? = some zeroPart
theorem Spare.ne {w : World} {P b : Nat} {o : Obj} (h : Spare w P) (hb : w.heap[b]? = some o) (ho : o ≠ zeroPart) : b ≠ P := by
 intro e
 subst e
 rcases h with h | h
 ·have := heap_lt hb;omega
 ·rw [hb] at h;cases h;exact ho rfl
theorem kids_done {wb w2 wx : World} {base M X : Nat} {vs vs2 : Value} {l : List UInt8} {c : UInt8} {W A1 B1 A2 B2 P6 P7 : Nat} (hO : Only [P6,P7] w2 wx) (h6 : wx.heap[P6]? = some (.cells #[.map (some A1),.map (some B1),.bool false] 271 (0,0))) (h7 : wx.heap[P7]? = some (.cells #[.map (some A2),.map (some B2),.bool false] 271 (0,0))) (s6 : Spare w2 P6) (s7 : Spare w2 P7) (f6 : wb.heap.size ≤ P6) (f7 : wb.heap.size ≤ P7) (a1 : OneMap w2 A1 0) (b1 : OneMap w2 B1 (l.length - 1 : Nat)) (a2 : OneMap w2 A2 l.length) (b2 : OneMap w2 B2 l.length) (mk : MkAt w2 base M X vs2 (l ++ [c]) (l.length - 1)) (ho : Only (M :: X :: ownL vs) wb w2) (hv : ∀ g,vs2.ownBlock = some g → vs.ownBlock = some g ∨ W ≤ g) :
  KidsDone wb base M X vs l c W (.pointer (some ⟨P6,0,none⟩)) (.pointer (some ⟨P7,0,none⟩)) wx := by
 have km : ∀ {b : Nat} {o : Obj},w2.heap[b]? = some o → o ≠ zeroPart → b ∉ [P6,P7] := by
  intro b o hb hne
  simp only [List.mem_cons,List.not_mem_nil,or_false]
  intro h
  rcases h with h | h
  ·exact s6.ne hb hne h
  ·exact s7.ne hb hne h
 refine ⟨A1,B1,A2,B2,vs2,P6,P7,rfl,rfl,h6,h7,hO.heap a1 (km a1 (by simp)),hO.heap b1 (km b1 (by simp)),hO.heap a2 (km a2 (by simp)),hO.heap b2 (km b2 (by simp)),mk.of_only hO (km mk.str (by simp)) (km mk.prs (by simp)) ?_,ho.fresh' hO ?_,hv⟩
 ·intro g e
  obtain ⟨cap,cur,hcur⟩ : ∃ (cap : Nat) (cur : Array Value),w2.heap[g]? = some (.cells cur 224 (0,0)) := by
   rcases mk.sets.2 with ⟨h1,_⟩ | ⟨g',cap,cur,h1,_,h2,_⟩
   ·rw [h1] at e;simp [Value.ownBlock] at e
   ·rw [h1] at e;simp [Value.ownBlock] at e;subst e;exact ⟨cap,cur,h2⟩
  exact km hcur (by simp)
 ·intro b hb
  simp only [List.mem_cons,List.not_mem_nil,or_false] at hb
  rcases hb with rfl | rfl <;> assumption
theorem Only.trans' {bs ks : List Nat} {a w w' : World} (h : Only bs a w) (ho : Only ks w w') (hk : ∀ b,b ∈ ks → b ∈ bs ∨ a.heap.size ≤ b) : Only bs a w' :=
 ⟨ho.os.trans h.os,ho.tape.trans h.tape,ho.output.trans h.output,Nat.le_trans h.size ho.size,fun b hb hn => (ho.block b (Nat.lt_of_lt_of_le hb h.size) (fun hx => by rcases hk b hx with h' | h';exact hn h';omega)).trans (h.block b hb hn)⟩
structure Pre (wb : World) (g N base M X : Nat) (kd n1 n2 n3 n4 : Int) (a : Option Addr) (m k : Nat) (c : UInt8) (vs : Value) : Prop where
 kids : KidsAt g N kd n1 n2 n3 n4 a m k c wb
 gl : g < wb.heap.size
 Nl : N < wb.heap.size
 Ml : M < wb.heap.size
 Xl : X < wb.heap.size
 vl : ∀ x,vs.ownBlock = some x → x < wb.heap.size
 sg : g ∉ (M :: X :: ownL vs)
 sN : N ∉ (M :: X :: ownL vs)
def Mid1 (wb w1 : World) (g N base M X : Nat) (kd n1 n2 n3 n4 : Int) (a : Option Addr) (m k : Nat) (c : UInt8) (vs vs1 : Value) (l : List UInt8) (A1 B1 : Nat) : Prop :=
 wb.heap.size ≤ w1.heap.size ∧ KidsAt g N kd n1 n2 n3 n4 a m k c w1 ∧ (OneMap w1 A1 0 ∧ OneMap w1 B1 (l.length - 1 : Nat)) ∧ MkAt w1 base M X vs1 l (l.length - 1) ∧ Only (M :: X :: ownL vs) wb w1 ∧ (∀ g,vs1.ownBlock = some g → vs.ownBlock = some g ∨ wb.heap.size ≤ g) ∧ (g ∉ (M :: ownL vs1) ∧ N ∉ (M :: ownL vs1))
theorem call1 {wb w1 : World} {g N base M X : Nat} {kd n1 n2 n3 n4 : Int} {a : Option Addr} {m k : Nat} {c : UInt8} {vs vs1 : Value} {l : List UInt8} {A1 B1 : Nat} {wa : World} (P : Pre wb g N base M X kd n1 n2 n3 n4 a m k c vs) (ho : Only [] wb wa) (h : wa.heap.size ≤ A1 ∧ wa.heap.size ≤ B1 ∧ OneMap w1 A1 0 ∧ OneMap w1 B1 (l.length - 1 : Nat) ∧ MkAt w1 base M X vs1 l (l.length - 1) ∧ Only (M :: X :: ownL vs) wa w1 ∧ (∀ g,vs1.ownBlock = some g → vs.ownBlock = some g ∨ wa.heap.size ≤ g)) :
  Mid1 wb w1 g N base M X kd n1 n2 n3 n4 a m k c vs vs1 l A1 B1 := by
 obtain ⟨_,_,h3,h4,h5,h6,h7⟩ := h
 have h6' : Only (M :: X :: ownL vs) wb w1 := (ho.weaken (by simp)).trans h6
 have hs := ho.size
 have key : ∀ x,x ∉ (M :: X :: ownL vs) → x < wb.heap.size → x ∉ (M :: ownL vs1) := by
  intro x hx hl hm
  simp only [List.mem_cons,mem_ownL,not_or] at hx hm
  rcases hm with h' | h'
  ·exact hx.1 h'
  ·rcases h7 x h' with h8 | h8
   ·exact hx.2.2 h8
   ·omega
 exact ⟨h6'.size,P.kids.of_only h6' P.sg P.sN,⟨h3,h4⟩,h5,h6',fun x e => (h7 x e).imp id (fun h => Nat.le_trans hs h),key g P.sg P.gl,key N P.sN P.Nl⟩
def Mid2 (wb w1 w2 : World) (g N base M X : Nat) (kd n1 n2 n3 n4 : Int) (a : Option Addr) (m k : Nat) (c : UInt8) (vs vs2 : Value) (l : List UInt8) (A1 B1 A2 B2 : Nat) : Prop :=
 KidsAt g N kd n1 n2 n3 n4 a m k c w2 ∧ (OneMap w2 A1 0 ∧ OneMap w2 B1 (l.length - 1 : Nat)) ∧ (OneMap w2 A2 l.length ∧ OneMap w2 B2 l.length) ∧ MkAt w2 base M X vs2 (l ++ [c]) (l.length - 1) ∧ Only (M :: X :: ownL vs) wb w2 ∧ (∀ g,vs2.ownBlock = some g → vs.ownBlock = some g ∨ wb.heap.size ≤ g) ∧ w1.heap.size ≤ w2.heap.size
theorem call2 {wb w1 wa w2 : World} {g N base M X : Nat} {kd n1 n2 n3 n4 : Int} {a : Option Addr} {m k : Nat} {c : UInt8} {vs vs1 vs2 : Value} {l : List UInt8} {A1 B1 A2 B2 : Nat} (P : Mid1 wb w1 g N base M X kd n1 n2 n3 n4 a m k c vs vs1 l A1 B1) (ho : Only [] w1 wa) (h : wa.heap.size ≤ A2 ∧ wa.heap.size ≤ B2 ∧ OneMap w2 A2 l.length ∧ OneMap w2 B2 l.length ∧ MkAt w2 base M X vs2 (l ++ [c]) (l.length - 1) ∧ Only (M :: ownL vs1) wa w2 ∧ (∀ g,vs2.ownBlock = some g → vs1.ownBlock = some g ∨ wa.heap.size ≤ g)) :
  Mid2 wb w1 w2 g N base M X kd n1 n2 n3 n4 a m k c vs vs2 l A1 B1 A2 B2 := by
 obtain ⟨_,_,h3,h4,h5,h6,h7⟩ := h
 obtain ⟨p1,p2,⟨p3,p3'⟩,p4,p5,p6,p7,p8⟩ := P
 have h6' : Only (M :: ownL vs1) w1 w2 := (ho.weaken (by simp)).trans h6
 have km : ∀ {A : Nat} {es : Array MapEntry} {cl : Nat},w1.heap[A]? = some (.map es cl) → A ∉ (M :: ownL vs1) := by
  intro A es cl hA hm
  simp only [List.mem_cons,mem_ownL] at hm
  rcases hm with rfl | h'
  ·rw [p4.str] at hA;cases hA
  ·rcases p4.sets.2 with ⟨e1,_⟩ | ⟨g',cap,cur,e1,_,e2,_⟩
   ·rw [e1] at h';simp [Value.ownBlock] at h'
   ·rw [e1] at h';simp [Value.ownBlock] at h';subst h';rw [e2] at hA;cases hA
 refine ⟨p2.of_only h6' p7 p8,⟨h6'.heap p3 (km p3),h6'.heap p3' (km p3')⟩,⟨h3,h4⟩,h5,p5.trans' h6' ?_,?_,h6'.size⟩
 ·intro x hx
  simp only [List.mem_cons,mem_ownL] at hx ⊢
  rcases hx with rfl | h'
  ·exact .inl (.inl rfl)
  ·rcases p6 x h' with h8 | h8
   ·exact .inl (.inr (.inr h8))
   ·exact .inr h8
 ·intro x hx
  have hs := ho.size
  rcases h7 x hx with h8 | h8
  ·exact p6 x h8
  ·right;omega
theorem call2' {wb w1 wa w2 : World} {g N base M X : Nat} {kd n1 n2 n3 n4 : Int} {a : Option Addr} {m k : Nat} {c : UInt8} {vs vs1 vs2 : Value} {l : List UInt8} {A1 B1 A2 B2 : Nat} (P : Mid1 wb w1 g N base M X kd n1 n2 n3 n4 a m k c vs vs1 l A1 B1) (ho : Only [] w1 wa) (h : wa.heap.size ≤ A2 ∧ wa.heap.size ≤ B2 ∧ OneMap w2 A2 l.length ∧ OneMap w2 B2 l.length ∧ MkAt w2 base M X vs2 (l ++ [c]) (l.length - 1) ∧ Only (M :: ownL vs1) wa w2 ∧ (∀ g,vs2.ownBlock = some g → vs1.ownBlock = some g ∨ wa.heap.size ≤ g)) :
  w1.heap.size ≤ w2.heap.size ∧ KidsAt g N kd n1 n2 n3 n4 a m k c w2 ∧ Mid2 wb w1 w2 g N base M X kd n1 n2 n3 n4 a m k c vs vs2 l A1 B1 A2 B2 := by
 have q := call2 P ho h
 exact ⟨q.2.2.2.2.2.2,q.1,q⟩
theorem MkAt.spare {w : World} {base M X n P : Nat} {vs : Value} {cs : List UInt8} (h : MkAt w base M X vs cs n) (hz : w.heap[P]? = some zeroPart) : P ∉ (M :: X :: ownL vs) := by
 intro hm
 simp only [List.mem_cons,mem_ownL] at hm
 rcases hm with rfl | rfl | h'
 ·rw [h.str] at hz;cases hz
 ·have h2 := h.prs;unfold Pairs at h2;rw [h2] at hz;cases hz
 ·rcases h.sets.2 with ⟨e1,_⟩ | ⟨g',cap,cur,e1,_,e2,_⟩
  ·rw [e1] at h';simp [Value.ownBlock] at h'
  ·rw [e1] at h';simp [Value.ownBlock] at h';subst h';rw [e2] at hz;cases hz
theorem zeroA {wa w' : World} {base M X n P : Nat} {vs : Value} {cs : List UInt8} (h : MkAt wa base M X vs cs n) (ho : Only (M :: X :: ownL vs) wa w') (hz : wa.heap[P]? = some zeroPart) : w'.heap[P]? = some zeroPart := ho.heap hz (h.spare hz)
theorem zeroB {wa w' : World} {base M X n P : Nat} {vs : Value} {cs : List UInt8} (h : MkAt wa base M X vs cs n) (ho : Only (M :: ownL vs) wa w') (hz : wa.heap[P]? = some zeroPart) : w'.heap[P]? = some zeroPart := ho.heap hz (fun hm => h.spare hz (by simp only [List.mem_cons] at hm ⊢;rcases hm with h' | h' <;> simp [h']))
theorem o0d (w : World) : Only [] w w.drew := (Only.refl [] w).drew
theorem o1d (w : World) : Only [] w (w.alloc zeroPart).drew := ((Only.refl [] w).alloc _).drew
theorem o2d (w : World) : Only [] w ((w.alloc zeroPart).alloc zeroPart).drew := (((Only.refl [] w).alloc _).alloc _).drew
theorem o1a (w : World) : Only [] w (w.alloc zeroPart) := (Only.refl [] w).alloc _
theorem o2a (w : World) : Only [] w ((w.alloc zeroPart).alloc zeroPart) := ((Only.refl [] w).alloc _).alloc _
theorem some_any (A : Nat) (w : World) : Calls Tryz.prog 143 #[.bool false,.map (some A)] w fun e w' => e = .returned (.map none) ∧ w = w' := by
 go_enter Tryz.func143,Tryz.ntmps143
 go_wp2_with fail
 go_ret
 exact ⟨rfl,rfl⟩
theorem keep7 {w0 w1 w2 : World} {ks : List Nat} {a b c d e f : Addr} {x y z u v t : Value} (h : Only ks w0 w1 ∧ w1.cell? a = some x ∧ w1.cell? b = some y ∧ w1.cell? c = some z ∧ w1.cell? d = some u ∧ w1.cell? e = some v ∧ w1.cell? f = some t) (o : Only [] w1 w2) : Only ks w0 w2 ∧ w2.cell? a = some x ∧ w2.cell? b = some y ∧ w2.cell? c = some z ∧ w2.cell? d = some u ∧ w2.cell? e = some v ∧ w2.cell? f = some t :=
 ⟨h.1.trans (o.weaken (by simp)),o.cell h.2.1 (by simp),o.cell h.2.2.1 (by simp),o.cell h.2.2.2.1 (by simp),o.cell h.2.2.2.2.1 (by simp),o.cell h.2.2.2.2.2.1 (by simp),o.cell h.2.2.2.2.2.2 (by simp)⟩
theorem keepR {w0 w1 w2 : World} {R : Nat} {a b c d e f : Addr} {x y z u v t : Value} (h : Only [R] w0 w1 ∧ w1.cell? a = some x ∧ w1.cell? b = some y ∧ w1.cell? c = some z ∧ w1.cell? d = some u ∧ w1.cell? e = some v ∧ w1.cell? f = some t) (o : Only [R] w1 w2) (ha : a.block ≠ R) (hb : b.block ≠ R) (hc : c.block ≠ R) (hd : d.block ≠ R) (he : e.block ≠ R) (hf : f.block ≠ R) : Only [R] w0 w2 ∧ w2.cell? a = some x ∧ w2.cell? b = some y ∧ w2.cell? c = some z ∧ w2.cell? d = some u ∧ w2.cell? e = some v ∧ w2.cell? f = some t :=
 ⟨h.1.trans o,o.cell h.2.1 (by simpa using ha),o.cell h.2.2.1 (by simpa using hb),o.cell h.2.2.2.1 (by simpa using hc),o.cell h.2.2.2.2.1 (by simpa using hd),o.cell h.2.2.2.2.2.1 (by simpa using he),o.cell h.2.2.2.2.2.2 (by simpa using hf)⟩
theorem z1a (w : World) : (w.alloc zeroPart).heap[w.heap.size]? = some zeroPart := heap_alloc_new w _
theorem z2a (w : World) : ((w.alloc zeroPart).alloc zeroPart).heap[w.heap.size]? = some zeroPart := map_old (heap_alloc_new w _) ((Only.refl [] _).alloc _)
theorem z2b (w : World) : ((w.alloc zeroPart).alloc zeroPart).heap[w.heap.size + 1]? = some zeroPart := by have := heap_alloc_new (w.alloc zeroPart) zeroPart;simpa using this
theorem kdone {wb w1 w2 : World} {g N base M X W : Nat} {kd n1 n2 n3 n4 : Int} {a : Option Addr} {m k : Nat} {c : UInt8} {vs vs2 : Value} {l : List UInt8} {A1 B1 A2 B2 : Nat} (C : Mid2 wb w1 w2 g N base M X kd n1 n2 n3 n4 a m k c vs vs2 l A1 B1 A2 B2) (hW : W ≤ wb.heap.size) (hb : wb.heap.size ≤ w2.heap.size) {wx : World} {P6 P7 : Nat} (hO : Only [P6,P7] w2 wx) (h6 : wx.heap[P6]? = some (.cells #[.map (some A1),.map (some B1),.bool false] 271 (0,0))) (h7 : wx.heap[P7]? = some (.cells #[.map (some A2),.map (some B2),.bool false] 271 (0,0))) (s6 : Spare w2 P6) (s7 : Spare w2 P7) (f6 : wb.heap.size ≤ P6) (f7 : wb.heap.size ≤ P7) : KidsDone wb base M X vs l c W (.pointer (some ⟨P6,0,none⟩)) (.pointer (some ⟨P7,0,none⟩)) wx := by
 obtain ⟨_,⟨a1,b1⟩,⟨a2,b2⟩,mk,ho,hv,_⟩ := C
 have _ := hb
 exact kids_done hO h6 h7 s6 s7 f6 f7 a1 b1 a2 b2 mk ho (fun g e => (hv g e).imp id (fun h => Nat.le_trans hW h))
theorem kd_nn1 {wb w1 w2 : World} {g N base M X W : Nat} {kd n1 n2 n3 n4 : Int} {a : Option Addr} {m k : Nat} {c : UInt8} {vs vs2 : Value} {l : List UInt8} {A1 B1 A2 B2 : Nat} (C : Mid2 wb w1 w2 g N base M X kd n1 n2 n3 n4 a m k c vs vs2 l A1 B1 A2 B2) (hW : W ≤ wb.heap.size) (hb : wb.heap.size ≤ w2.heap.size) : KidsDone wb base M X vs l c W (.pointer (some ⟨w2.heap.size,0,none⟩)) (.pointer (some ⟨w2.heap.size + 1,0,none⟩)) ((w2.alloc (.cells #[.map (some A1),.map (some B1),.bool false] 271)).alloc (.cells #[.map (some A2),.map (some B2),.bool false] 271)) := by
 refine kdone C hW hb (((Only.refl _ w2).alloc _).alloc _) (map_old (heap_alloc_new w2 _) ((Only.refl [] _).alloc _)) ?_ (.inl (Nat.le_refl _)) (.inl (by omega)) hb (by omega)
 have := heap_alloc_new (w2.alloc (.cells #[.map (some A1),.map (some B1),.bool false] 271)) (.cells #[.map (some A2),.map (some B2),.bool false] 271)
 simpa using this
theorem kd_nn2 {wb w1 w2 : World} {g N base M X W : Nat} {kd n1 n2 n3 n4 : Int} {a : Option Addr} {m k : Nat} {c : UInt8} {vs vs2 : Value} {l : List UInt8} {A1 B1 A2 B2 : Nat} (C : Mid2 wb w1 w2 g N base M X kd n1 n2 n3 n4 a m k c vs vs2 l A1 B1 A2 B2) (hW : W ≤ wb.heap.size) (hb : wb.heap.size ≤ w2.heap.size) : KidsDone wb base M X vs l c W (.pointer (some ⟨w2.heap.size + 1,0,none⟩)) (.pointer (some ⟨w2.heap.size,0,none⟩)) ((w2.alloc (.cells #[.map (some A2),.map (some B2),.bool false] 271)).alloc (.cells #[.map (some A1),.map (some B1),.bool false] 271)) := by
 refine kdone C hW hb (((Only.refl _ w2).alloc _).alloc _) ?_ (map_old (heap_alloc_new w2 _) ((Only.refl [] _).alloc _)) (.inl (by omega)) (.inl (Nat.le_refl _)) (by omega) hb
 have := heap_alloc_new (w2.alloc (.cells #[.map (some A2),.map (some B2),.bool false] 271)) (.cells #[.map (some A1),.map (some B1),.bool false] 271)
 simpa using this
theorem kd_on {wb w1 w2 : World} {g N base M X W : Nat} {kd n1 n2 n3 n4 : Int} {a : Option Addr} {m k : Nat} {c : UInt8} {vs vs2 : Value} {l : List UInt8} {A1 B1 A2 B2 : Nat} (C : Mid2 wb w1 w2 g N base M X kd n1 n2 n3 n4 a m k c vs vs2 l A1 B1 A2 B2) (hW : W ≤ wb.heap.size) (hb : wb.heap.size ≤ w2.heap.size) {P : Nat} (hz : w2.heap[P]? = some zeroPart) (hP : wb.heap.size ≤ P) : KidsDone wb base M X vs l c W (.pointer (some ⟨P,0,none⟩)) (.pointer (some ⟨w2.heap.size,0,none⟩)) (((((w2).setCell ⟨P,0,none⟩ (.map (some A1))).setCell ⟨P,1,none⟩ (.map (some B1))).setCell ⟨P,2,none⟩ (.bool false)).alloc (.cells #[.map (some A2),.map (some B2),.bool false] 271)) := by
 have hs : ((((w2).setCell ⟨P,0,none⟩ (.map (some A1))).setCell ⟨P,1,none⟩ (.map (some B1))).setCell ⟨P,2,none⟩ (.bool false)).heap.size = w2.heap.size := by simp [World.setCell]
 have h9 := heap_alloc_new ((((w2).setCell ⟨P,0,none⟩ (.map (some A1))).setCell ⟨P,1,none⟩ (.map (some B1))).setCell ⟨P,2,none⟩ (.bool false)) (.cells #[.map (some A2),.map (some B2),.bool false] 271)
 rw [hs] at h9
 refine kdone C hW hb ((((((Only.refl _ w2).setCell (by simp) _).setCell (by simp) _).setCell (by simp) _).alloc _)) (map_old (three_set hz _ _ _) ((Only.refl [] _).alloc _)) h9 (.inr hz) (.inl (Nat.le_refl _)) hP hb
theorem kd_no {wb w1 w2 : World} {g N base M X W : Nat} {kd n1 n2 n3 n4 : Int} {a : Option Addr} {m k : Nat} {c : UInt8} {vs vs2 : Value} {l : List UInt8} {A1 B1 A2 B2 : Nat} (C : Mid2 wb w1 w2 g N base M X kd n1 n2 n3 n4 a m k c vs vs2 l A1 B1 A2 B2) (hW : W ≤ wb.heap.size) (hb : wb.heap.size ≤ w2.heap.size) {P : Nat} (hz : w2.heap[P]? = some zeroPart) (hP : wb.heap.size ≤ P) : KidsDone wb base M X vs l c W (.pointer (some ⟨w2.heap.size,0,none⟩)) (.pointer (some ⟨P,0,none⟩)) (((((w2).setCell ⟨P,0,none⟩ (.map (some A2))).setCell ⟨P,1,none⟩ (.map (some B2))).setCell ⟨P,2,none⟩ (.bool false)).alloc (.cells #[.map (some A1),.map (some B1),.bool false] 271)) := by
 have hs : ((((w2).setCell ⟨P,0,none⟩ (.map (some A2))).setCell ⟨P,1,none⟩ (.map (some B2))).setCell ⟨P,2,none⟩ (.bool false)).heap.size = w2.heap.size := by simp [World.setCell]
 have h9 := heap_alloc_new ((((w2).setCell ⟨P,0,none⟩ (.map (some A2))).setCell ⟨P,1,none⟩ (.map (some B2))).setCell ⟨P,2,none⟩ (.bool false)) (.cells #[.map (some A1),.map (some B1),.bool false] 271)
 rw [hs] at h9
 refine kdone C hW hb ((((((Only.refl _ w2).setCell (by simp) _).setCell (by simp) _).setCell (by simp) _).alloc _)) h9 (map_old (three_set hz _ _ _) ((Only.refl [] _).alloc _)) (.inl (Nat.le_refl _)) (.inr hz) hb hP
theorem kd_oo1 {wb w1 w2 : World} {g N base M X W : Nat} {kd n1 n2 n3 n4 : Int} {a : Option Addr} {m k : Nat} {c : UInt8} {vs vs2 : Value} {l : List UInt8} {A1 B1 A2 B2 : Nat} (C : Mid2 wb w1 w2 g N base M X kd n1 n2 n3 n4 a m k c vs vs2 l A1 B1 A2 B2) (hW : W ≤ wb.heap.size) (hb : wb.heap.size ≤ w2.heap.size) {P Q : Nat} (hz : w2.heap[P]? = some zeroPart) (hP : wb.heap.size ≤ P) (hz' : w2.heap[Q]? = some zeroPart) (hQ : wb.heap.size ≤ Q) (hne : P ≠ Q) : KidsDone wb base M X vs l c W (.pointer (some ⟨P,0,none⟩)) (.pointer (some ⟨Q,0,none⟩)) (((((((w2).setCell ⟨P,0,none⟩ (.map (some A1))).setCell ⟨P,1,none⟩ (.map (some B1))).setCell ⟨P,2,none⟩ (.bool false)).setCell ⟨Q,0,none⟩ (.map (some A2))).setCell ⟨Q,1,none⟩ (.map (some B2))).setCell ⟨Q,2,none⟩ (.bool false)) := by
 refine kdone C hW hb ((((((((Only.refl _ w2).setCell (by simp) _).setCell (by simp) _).setCell (by simp) _).setCell (by simp) _).setCell (by simp) _).setCell (by simp) _)) ?_ ?_ (.inr hz) (.inr hz') hP hQ
 ·exact (three_only _ Q _ _ _).heap (three_set hz _ _ _) (by simpa using hne)
 ·exact three_set ((three_only w2 P _ _ _).heap hz' (by simpa using hne.symm)) _ _ _
theorem kd_oo2 {wb w1 w2 : World} {g N base M X W : Nat} {kd n1 n2 n3 n4 : Int} {a : Option Addr} {m k : Nat} {c : UInt8} {vs vs2 : Value} {l : List UInt8} {A1 B1 A2 B2 : Nat} (C : Mid2 wb w1 w2 g N base M X kd n1 n2 n3 n4 a m k c vs vs2 l A1 B1 A2 B2) (hW : W ≤ wb.heap.size) (hb : wb.heap.size ≤ w2.heap.size) {P Q : Nat} (hz : w2.heap[P]? = some zeroPart) (hP : wb.heap.size ≤ P) (hz' : w2.heap[Q]? = some zeroPart) (hQ : wb.heap.size ≤ Q) (hne : P ≠ Q) : KidsDone wb base M X vs l c W (.pointer (some ⟨P,0,none⟩)) (.pointer (some ⟨Q,0,none⟩)) (((((((w2).setCell ⟨Q,0,none⟩ (.map (some A2))).setCell ⟨Q,1,none⟩ (.map (some B2))).setCell ⟨Q,2,none⟩ (.bool false)).setCell ⟨P,0,none⟩ (.map (some A1))).setCell ⟨P,1,none⟩ (.map (some B1))).setCell ⟨P,2,none⟩ (.bool false)) := by
 refine kdone C hW hb ((((((((Only.refl _ w2).setCell (by simp) _).setCell (by simp) _).setCell (by simp) _).setCell (by simp) _).setCell (by simp) _).setCell (by simp) _)) ?_ ?_ (.inr hz) (.inr hz') hP hQ
 ·exact three_set ((three_only w2 Q _ _ _).heap hz (by simpa using hne)) _ _ _
 ·exact (three_only _ P _ _ _).heap (three_set hz' _ _ _) (by simpa using hne.symm)
theorem mk_fin {w wb wc w3 w4 w5 w6 : World} {base M X R : Nat} {vs vs2 : Value} {l : List UInt8} {c : UInt8} {A1 B1 A2 B2 P6 P7 X1 X2 W : Nat} (HE : wc.heap[P6]? = some (.cells #[.map (some A1),.map (some B1),.bool false] 271 (0,0)) ∧ wc.heap[P7]? = some (.cells #[.map (some A2),.map (some B2),.bool false] 271 (0,0)) ∧ OneMap wc A1 0 ∧ OneMap wc B1 (l.length - 1 : Nat) ∧ OneMap wc A2 l.length ∧ OneMap wc B2 l.length ∧ MkAt wc base M X vs2 (l ++ [c]) (l.length - 1) ∧ Only (M :: X :: ownL vs) wb wc ∧ (∀ g,vs2.ownBlock = some g → vs.ownBlock = some g ∨ W ≤ g)) (HJ : Pairs w3 X l.length ∧ Only [X] wc w3) (o35 : Only [] w3 w5) (hx1 : w3.drew.heap.size ≤ X1) (hx2 : OneMap w5 X1 0) (hx3 : w4.heap.size ≤ X2) (hx4 : OneMap w5 X2 l.length) (hRw : w.heap.size ≤ R) (hW : W = w.heap.size) (hwb : w.heap.size ≤ wb.heap.size) (ob : Only [] w wb) (hR5 : w5.heap[R]? = some zeroPart) (ho6 : Only [R] w5 w6) (hs4 : w3.drew.heap.size ≤ w4.heap.size) :
  MkPost w base M X vs (l ++ [c]) (.returned (.agg #[.map (some X1),.map (some X2),.bool false])) w6 := by
 obtain ⟨h6,h7,a1,b1,a2,b2,mk,hoc,hvc⟩ := HE
 have hs3 : w3.drew.heap.size = w3.heap.size := rfl
 have hcs := hoc.size
 have h3s := HJ.2.size
 have kR : ∀ {b : Nat} {o : Obj},w5.heap[b]? = some o → o ≠ zeroPart → b ∉ [R] := by
  intro b o hb ho hx
  simp at hx
  subst hx
  rw [hR5] at hb
  exact ho (Option.some.inj hb).symm
 have hX5 : Pairs w5 X l.length := map_old HJ.1 o35
 have hM3 : M ∉ [X] := by
  intro hx
  simp at hx
  have := mk.prs
  unfold Pairs at this
  rw [← hx,mk.str] at this
  cases this
 have hM5 := map_old (HJ.2.heap mk.str hM3) o35
 have hsets5 := ownsRow_only (ownsRow_only mk.sets HJ.2 (fun g e => by simp;intro e2;subst e2;exact mk.sX e)) o35 (by simp)
 have hlen : (l ++ [c]).length - 1 = l.length := by simp
 have hall : Only (M :: X :: ownL vs) w w6 := by
  refine ((((ob.weaken (by simp)).trans hoc).trans (HJ.2.weaken (by simp))).trans (o35.weaken (by simp))).fresh' ho6 ?_
  intro b hb;simp at hb;omega
 refine ⟨X1,X2,vs2,rfl,by omega,by omega,ho6.heap hx2 (kR hx2 (by simp)),?_,?_,hall,fun g e => by rw [← hW];exact hvc g e⟩
 ·rw [hlen];exact ho6.heap hx4 (kR hx4 (by simp))
 ·rw [hlen]
  refine ⟨ho6.heap hM5 (kR hM5 (by simp)),ownsRow_only hsets5 ho6 ?_,ho6.heap hX5 (kR hX5 (by simp)),mk.sM,mk.sX,?_,mk.bM,mk.bX⟩
  ·intro g e
   rcases hsets5.2 with ⟨e1,_⟩ | ⟨g',cap,cur,e1,_,e2,_⟩
   ·rw [e1] at e;simp [Value.ownBlock] at e
   ·rw [e1] at e;simp [Value.ownBlock] at e;subst e;exact kR e2 (by simp)
  ·have e1 := mk.bl
   have e2 := o35.size
   have e3 := ho6.size
   omega
theorem mk_then (w0 : World) (lo g : Nat) (kd n1 n2 n3 n4 : Int) (a : Option Addr) (m k : Nat) (l : List UInt8) (c : UInt8) (base M X : Nat) (vs : Value) (w : World) (hx : NodeAt w0 lo (nodeA kd n1 n2 n3 n4 a m k) l) (hg : w0.heap[g]? = some (.cells (nodeA kd n1 n2 n3 n4 a m k ++ oneNode c) 227 (0,0))) (hb : base = w0.heap.size) (ho : Only [] w0 w) (h : MkAt w base M X vs [] 0) (hl : l.length ≤ 999) (ih : ∀ vs wx,Only [] w0 wx → MkAt wx base M X vs [] 0 → Calls Tryz.prog 125 #[.pointer (some ⟨M,0,none⟩),.agg (nodeA kd n1 n2 n3 n4 a m k)] wx (MkPost wx base M X vs l)) :
  Calls Tryz.prog 125 #[.pointer (some ⟨M,0,none⟩),.agg (thenNode g)] w (MkPost w base M X vs (l ++ [c])) := by
 obtain ⟨N,hN⟩ : ∃ N,N = w.heap.size := ⟨_,rfl⟩
 obtain ⟨R,hR⟩ : ∃ R,R = N + 1 := ⟨_,rfl⟩
 obtain ⟨wb,hwb⟩ : ∃ wb,wb = (w.alloc (.cells (thenNode g) 227)).alloc (.cells #[.map none,.map none,.bool false] 271) := ⟨_,rfl⟩
 have hbR : wb.heap[R]? = some (.cells #[.map none,.map none,.bool false] 271 (0,0)) := by
  have := heap_alloc_new (w.alloc (.cells (thenNode g) 227)) (.cells #[.map none,.map none,.bool false] 271)
  rw [hwb,hR,hN];simpa using this
 have hbN : wb.heap[N]? = some (.cells (thenNode g) 227 (0,0)) := by
  rw [hwb];exact ((Only.refl [] _).alloc _).heap (by rw [hN];exact heap_alloc_new w _) (by simp)
 have ob : Only [] w wb := by rw [hwb];exact ((Only.refl [] w).alloc _).alloc _
 have hgb := (ho.trans ob).heap hg (by simp)
 have hsb : wb.heap.size = R + 1 := by rw [hwb,hR,hN];simp
 have x0 : wb.cell? ⟨N,0,none⟩ = some (.int .i64 2) := cell_at hbN rfl
 have hlg := heap_lt hg
 have hlp : 0 < l.length := List.length_pos_iff.2 hx.ne
 have hs0 := ho.size
 have HH := LH (AI h (AI hN (AI hR (AI hwb (AI hbR (AI hbN (AI ob (AI hgb (AI hsb (AI hb ho))))))))))
 have HIH := LH ih
 clear h hN hR hwb hbR hbN ob hgb hsb hb hg hx ih
 go_enter Tryz.func125,Tryz.ntmps125
 go_upto_region 1 with fail
 rw [← HH.out.2.2.2.1,← HH.out.2.1,← HH.out.2.2.1]
 go_upto_region 7 with fail
 have HK0 : KidsAt g N kd n1 n2 n3 n4 a m k c wb := ⟨HH.out.2.2.2.2.2.2.2.1,HH.out.2.2.2.2.2.1⟩
 have HK := LH HK0
 have hsep : ∀ vs0 : Value,(∀ x,vs0.ownBlock = some x → base ≤ x ∧ x < w.heap.size ∨ N < x) → g ∉ (M :: X :: ownL vs0) ∧ N ∉ (M :: X :: ownL vs0) := by
  intro vs0 h
  have hm := heap_lt HH.out.1.str
  have hx := heap_lt HH.out.1.prs
  have e1 := HH.out.2.2.2.2.2.2.2.2.2.1
  have e2 := HH.out.1.bM
  have e3 := HH.out.1.bX
  have e4 := HH.out.2.1
  refine ⟨fun hm' => ?_,fun hm' => ?_⟩
  ·simp only [List.mem_cons,mem_ownL] at hm'
   rcases hm' with h' | h' | h'
   ·omega
   ·omega
   ·have := h g h';omega
  ·simp only [List.mem_cons,mem_ownL] at hm'
   rcases hm' with h' | h' | h'
   ·omega
   ·omega
   ·have := h N h';omega
 have HS := LH hsep
 have hvs : ∀ x,vs.ownBlock = some x → base ≤ x ∧ x < w.heap.size ∨ N < x := fun x e => .inl (HH.out.1.sets.lt x e)
 have HV := LH hvs
 obtain ⟨y0,y1,y2,y3,y4,y5,y6,y7,y8,y9,y10,y11,y12⟩ := HK0.cells
 clear HK0 hsep hvs
 have hMb : M < wb.heap.size := by have h1 := heap_lt HH.out.1.str;have h2 := HH.out.2.2.2.2.2.2.1.size;omega
 have hXb : X < wb.heap.size := by have h1 := heap_lt HH.out.1.prs;have h2 := HH.out.2.2.2.2.2.2.1.size;omega
 have hNb : N < wb.heap.size := by have h1 := HH.out.2.2.2.2.2.2.2.2.1;have h2 := HH.out.2.2.1;omega
 have hgb : g < wb.heap.size := by have h1 := HH.out.2.1;omega
 have hwb : w.heap.size ≤ wb.heap.size := HH.out.2.2.2.2.2.2.1.size
 have HH1 := LH (show Pre wb g N base M X kd n1 n2 n3 n4 a m k c vs from ⟨HK.out,hgb,hNb,hMb,hXb,fun x e => Nat.lt_of_lt_of_le (HH.out.1.sets.lt x e).2 hwb,(HS.out vs HV.out).1,(HS.out vs HV.out).2⟩)
 have HO0 := LH (show Only [] w0 wb from HH.out.2.2.2.2.2.2.2.2.2.2.trans HH.out.2.2.2.2.2.2.1)
 have HM0 := LH (show MkAt wb base M X vs [] 0 from HH.out.1.of_none HH.out.2.2.2.2.2.2.1)
 have hl' : l.length ≤ 1000 := by omega
 go_cut [6,7] (fun s6 s7 wx => KidsDone wb base M X vs l c w.heap.size s6 s7 wx)
 case first =>
  go_region_held3 (fun w' => w'.cell? ⟨N,5,none⟩ = some (.slice (some ⟨g,0,none⟩) 2 2) ∧ w'.cell? ⟨g,0,none⟩ = some (.int .i64 kd) ∧ w'.cell? ⟨g,1,none⟩ = some (.int .u64 n1) ∧ w'.cell? ⟨g,2,none⟩ = some (.int .u64 n2) ∧ w'.cell? ⟨g,3,none⟩ = some (.int .u64 n3) ∧ w'.cell? ⟨g,4,none⟩ = some (.int .u64 n4) ∧ w'.cell? ⟨g,5,none⟩ = some (.slice a m k) ∧ w'.cell? ⟨g,6,none⟩ = some (.int .i64 1) ∧ w'.cell? ⟨g,7,none⟩ = some (bitV c 0) ∧ w'.cell? ⟨g,8,none⟩ = some (bitV c 1) ∧ w'.cell? ⟨g,9,none⟩ = some (bitV c 2) ∧ w'.cell? ⟨g,10,none⟩ = some (bitV c 3) ∧ w'.cell? ⟨g,11,none⟩ = some (.slice none 0 0)) ((refine KidsAt.cells (g := g) (N := N) (kd := kd) ?_;repeat (first | with_reducible exact HK2.out | with_reducible exact HK1.out | with_reducible exact HK.out | with_reducible refine KidsAt.alloc ?_ _ | with_reducible refine KidsAt.drew ?_ | (with_reducible refine KidsAt.set ?_ ?_ ?_ _;rotate_left;omega;omega))))
  (first
   | (go_at_call 125;(with_reducible refine (HIH.out vs (World.drew (World.alloc (World.alloc wb zeroPart) zeroPart)) (HO0.out.trans (o2d wb)) (HM0.out.of_none (o2d wb))).mono ?_);rintro e w1 ⟨A1,B1,vs1,rfl,h1⟩;have HZa := LH (zeroA (HM0.out.of_none (o2d wb)) h1.2.2.2.2.2.1 (show (World.drew (World.alloc (World.alloc wb zeroPart) zeroPart)).heap[wb.heap.size]? = some zeroPart from z2a wb));have HZb := LH (zeroA (HM0.out.of_none (o2d wb)) h1.2.2.2.2.2.1 (show (World.drew (World.alloc (World.alloc wb zeroPart) zeroPart)).heap[wb.heap.size + 1]? = some zeroPart from z2b wb));have HC1 := LH (call1 HH1.out (o2d wb) h1);have hw1 := (call1 HH1.out (o2d wb) h1).1;have HK1 := LH (call1 HH1.out (o2d wb) h1).2.1;have HMk := LH (call1 HH1.out (o2d wb) h1).2.2.2.1;clear HIH h1)
   | (go_at_call 125;(with_reducible refine (HIH.out vs (World.drew (World.alloc wb zeroPart)) (HO0.out.trans (o1d wb)) (HM0.out.of_none (o1d wb))).mono ?_);rintro e w1 ⟨A1,B1,vs1,rfl,h1⟩;have HZa := LH (zeroA (HM0.out.of_none (o1d wb)) h1.2.2.2.2.2.1 (show (World.drew (World.alloc wb zeroPart)).heap[wb.heap.size]? = some zeroPart from z1a wb));have HC1 := LH (call1 HH1.out (o1d wb) h1);have hw1 := (call1 HH1.out (o1d wb) h1).1;have HK1 := LH (call1 HH1.out (o1d wb) h1).2.1;have HMk := LH (call1 HH1.out (o1d wb) h1).2.2.2.1;clear HIH h1)
   | (go_at_call 125;(with_reducible refine (HIH.out vs (World.drew wb) (HO0.out.trans (o0d wb)) (HM0.out.of_none (o0d wb))).mono ?_);rintro e w1 ⟨A1,B1,vs1,rfl,h1⟩;have HC1 := LH (call1 HH1.out (o0d wb) h1);have hw1 := (call1 HH1.out (o0d wb) h1).1;have HK1 := LH (call1 HH1.out (o0d wb) h1).2.1;have HMk := LH (call1 HH1.out (o0d wb) h1).2.2.2.1;clear HIH h1)
   | (go_at_call 125;have gz := HZb.out;clear gz;(with_reducible refine (makeOne_any base M X vs1 l (l.length - 1) c w1 (HMk.out.of_none (Only.refl [] w1)) hl').mono ?_);rintro e w2 ⟨A2,B2,vs2,rfl,h1⟩;have z0 : w2.heap[wb.heap.size]? = some zeroPart := zeroB (HMk.out.of_none (Only.refl [] w1)) h1.2.2.2.2.2.1 (map_old HZa.out (Only.refl [] w1));have zl0 := heap_lt z0;obtain ⟨za0,zb0,zc0,zd0,ze0,zf0⟩ := zero_cells z0;have HQ0 := LH z0;clear z0;have z1 : w2.heap[wb.heap.size + 1]? = some zeroPart := zeroB (HMk.out.of_none (Only.refl [] w1)) h1.2.2.2.2.2.1 (map_old HZb.out (Only.refl [] w1));have zl1 := heap_lt z1;obtain ⟨za1,zb1,zc1,zd1,ze1,zf1⟩ := zero_cells z1;have HQ1 := LH z1;clear z1;have HC2 := LH (call2' HC1.out (Only.refl [] w1) h1).2.2;have hw2 := (call2' HC1.out (Only.refl [] w1) h1).1;have HK2 := LH (call2' HC1.out (Only.refl [] w1) h1).2.1;clear h1)
   | (go_at_call 125;have gz := HZa.out;clear gz;(with_reducible refine (makeOne_any base M X vs1 l (l.length - 1) c (World.alloc w1 zeroPart) (HMk.out.of_none (o1a w1)) hl').mono ?_);rintro e w2 ⟨A2,B2,vs2,rfl,h1⟩;have z0 : w2.heap[wb.heap.size]? = some zeroPart := zeroB (HMk.out.of_none (o1a w1)) h1.2.2.2.2.2.1 (map_old HZa.out (o1a w1));have zl0 := heap_lt z0;obtain ⟨za0,zb0,zc0,zd0,ze0,zf0⟩ := zero_cells z0;have HQ0 := LH z0;clear z0;have z1 : w2.heap[w1.heap.size]? = some zeroPart := zeroB (HMk.out.of_none (o1a w1)) h1.2.2.2.2.2.1 (z1a w1);have zl1 := heap_lt z1;obtain ⟨za1,zb1,zc1,zd1,ze1,zf1⟩ := zero_cells z1;have HQ1 := LH z1;clear z1;have hne1 : ¬ wb.heap.size = w1.heap.size := Nat.ne_of_lt (heap_lt HZa.out);have hne2 : ¬ w1.heap.size = wb.heap.size := fun e => hne1 e.symm;have HC2 := LH (call2' HC1.out (o1a w1) h1).2.2;have hw2 := (call2' HC1.out (o1a w1) h1).1;have HK2 := LH (call2' HC1.out (o1a w1) h1).2.1;clear h1)
   | (go_at_call 125;have gz := HZa.out;clear gz;(with_reducible refine (makeOne_any base M X vs1 l (l.length - 1) c w1 (HMk.out.of_none (Only.refl [] w1)) hl').mono ?_);rintro e w2 ⟨A2,B2,vs2,rfl,h1⟩;have z0 : w2.heap[wb.heap.size]? = some zeroPart := zeroB (HMk.out.of_none (Only.refl [] w1)) h1.2.2.2.2.2.1 (map_old HZa.out (Only.refl [] w1));have zl0 := heap_lt z0;obtain ⟨za0,zb0,zc0,zd0,ze0,zf0⟩ := zero_cells z0;have HQ0 := LH z0;clear z0;have HC2 := LH (call2' HC1.out (Only.refl [] w1) h1).2.2;have hw2 := (call2' HC1.out (Only.refl [] w1) h1).1;have HK2 := LH (call2' HC1.out (Only.refl [] w1) h1).2.1;clear h1)
   | (go_at_call 125;(with_reducible refine (makeOne_any base M X vs1 l (l.length - 1) c (World.alloc (World.alloc w1 zeroPart) zeroPart) (HMk.out.of_none (o2a w1)) hl').mono ?_);rintro e w2 ⟨A2,B2,vs2,rfl,h1⟩;have z0 : w2.heap[w1.heap.size]? = some zeroPart := zeroB (HMk.out.of_none (o2a w1)) h1.2.2.2.2.2.1 (z2a w1);have zl0 := heap_lt z0;obtain ⟨za0,zb0,zc0,zd0,ze0,zf0⟩ := zero_cells z0;have HQ0 := LH z0;clear z0;have z1 : w2.heap[w1.heap.size + 1]? = some zeroPart := zeroB (HMk.out.of_none (o2a w1)) h1.2.2.2.2.2.1 (z2b w1);have zl1 := heap_lt z1;obtain ⟨za1,zb1,zc1,zd1,ze1,zf1⟩ := zero_cells z1;have HQ1 := LH z1;clear z1;have HC2 := LH (call2' HC1.out (o2a w1) h1).2.2;have hw2 := (call2' HC1.out (o2a w1) h1).1;have HK2 := LH (call2' HC1.out (o2a w1) h1).2.1;clear h1)
   | (go_at_call 125;(with_reducible refine (makeOne_any base M X vs1 l (l.length - 1) c (World.alloc w1 zeroPart) (HMk.out.of_none (o1a w1)) hl').mono ?_);rintro e w2 ⟨A2,B2,vs2,rfl,h1⟩;have z0 : w2.heap[w1.heap.size]? = some zeroPart := zeroB (HMk.out.of_none (o1a w1)) h1.2.2.2.2.2.1 (z1a w1);have zl0 := heap_lt z0;obtain ⟨za0,zb0,zc0,zd0,ze0,zf0⟩ := zero_cells z0;have HQ0 := LH z0;clear z0;have HC2 := LH (call2' HC1.out (o1a w1) h1).2.2;have hw2 := (call2' HC1.out (o1a w1) h1).1;have HK2 := LH (call2' HC1.out (o1a w1) h1).2.1;clear h1)
   | (go_at_call 125;(with_reducible refine (makeOne_any base M X vs1 l (l.length - 1) c w1 (HMk.out.of_none (Only.refl [] w1)) hl').mono ?_);rintro e w2 ⟨A2,B2,vs2,rfl,h1⟩;have HC2 := LH (call2' HC1.out (Only.refl [] w1) h1).2.2;have hw2 := (call2' HC1.out (Only.refl [] w1) h1).1;have HK2 := LH (call2' HC1.out (Only.refl [] w1) h1).2.1;clear h1))
  all_goals go_wp2_with fail
  all_goals go_meet
  all_goals have hb2 : wb.heap.size ≤ w2.heap.size := Nat.le_trans hw1 hw2
  all_goals (first
   | with_reducible exact kd_nn1 HC2.out hwb hb2
   | with_reducible exact kd_nn2 HC2.out hwb hb2
   | with_reducible exact kd_on HC2.out hwb hb2 HQ0.out (by omega)
   | with_reducible exact kd_no HC2.out hwb hb2 HQ0.out (by omega)
   | with_reducible exact kd_oo1 HC2.out hwb hb2 HQ0.out (by omega) HQ1.out (by omega) (by omega)
   | with_reducible exact kd_oo1 HC2.out hwb hb2 HQ1.out (by omega) HQ0.out (by omega) (by omega)
   | with_reducible exact kd_oo2 HC2.out hwb hb2 HQ0.out (by omega) HQ1.out (by omega) (by omega)
   | with_reducible exact kd_oo2 HC2.out hwb hb2 HQ1.out (by omega) HQ0.out (by omega) (by omega))
 case rest =>
  obtain ⟨A1,B1,A2,B2,vs2,P6,P7,rfl,rfl,h6,h7,a1,b1,a2,b2,mk,hoc,hvc⟩ := hcut
  have HE := LH (AI h6 (AI h7 (AI a1 (AI b1 (AI a2 (AI b2 (AI mk (AI hoc hvc))))))))
  have l6 := heap_lt h6
  have l7 := heap_lt h7
  obtain ⟨u0,u1,u2⟩ : wc.cell? ⟨P6,0,none⟩ = some (.map (some A1)) ∧ wc.cell? ⟨P6,1,none⟩ = some (.map (some B1)) ∧ wc.cell? ⟨P6,2,none⟩ = some (.bool false) := ⟨cell_at h6 rfl,cell_at h6 rfl,cell_at h6 rfl⟩
  obtain ⟨t0,t1,t2⟩ : wc.cell? ⟨P7,0,none⟩ = some (.map (some A2)) ∧ wc.cell? ⟨P7,1,none⟩ = some (.map (some B2)) ∧ wc.cell? ⟨P7,2,none⟩ = some (.bool false) := ⟨cell_at h7 rfl,cell_at h7 rfl,cell_at h7 rfl⟩
  have hJ := join_any M X (l.length - 1) l.length B1 A2 (by omega) vs2 268 wc mk.str mk.prs b1 a2
  clear h6 h7 a1 b1 a2 b2 mk hoc hvc y0 y1 y2 y3 y4 y5 y6 y7 y8 y9 y10 y11 y12
  go_upto_region 9 with (go_at_call 141;refine (hJ).mono ?_;rintro e w3 ⟨rfl,j1,j2⟩;have HJ := LH (AI j1 j2);clear j1 j2)
  obtain ⟨h6,h7,a1,b1,a2,b2,mk,hoc,hvc⟩ := HE.out
  have nM : ∀ {b : Nat} {o : Obj},wc.heap[b]? = some o → (∀ es cl,o ≠ .map es cl) → b ∉ [X] := by
   intro b o hb ho hx
   simp at hx
   subst hx
   have := mk.prs
   unfold Pairs at this
   rw [this] at hb
   exact ho _ _ (Option.some.inj hb).symm
  have h63 := HJ.out.2.heap h6 (nM h6 (by simp))
  have h73 := HJ.out.2.heap h7 (nM h7 (by simp))
  obtain ⟨u0,u1,u2⟩ : w3.cell? ⟨P6,0,none⟩ = some (.map (some A1)) ∧ w3.cell? ⟨P6,1,none⟩ = some (.map (some B1)) ∧ w3.cell? ⟨P6,2,none⟩ = some (.bool false) := ⟨cell_at h63 rfl,cell_at h63 rfl,cell_at h63 rfl⟩
  obtain ⟨t0,t1,t2⟩ : w3.cell? ⟨P7,0,none⟩ = some (.map (some A2)) ∧ w3.cell? ⟨P7,1,none⟩ = some (.map (some B2)) ∧ w3.cell? ⟨P7,2,none⟩ = some (.bool false) := ⟨cell_at h73 rfl,cell_at h73 rfl,cell_at h73 rfl⟩
  have hRc : wc.heap[R]? = some zeroPart := hoc.heap HH.out.2.2.2.2.1 (by
   intro hm
   have e1 := HH.out.2.1
   have e2 := HH.out.2.2.1
   have e3 := heap_lt HH.out.1.str
   have e4 := heap_lt HH.out.1.prs
   simp only [List.mem_cons,mem_ownL] at hm
   rcases hm with h' | h' | h'
   ·omega
   ·omega
   ·have := (HH.out.1.sets.lt R h').2;omega)
  have hR3 := HJ.out.2.heap hRc (nM hRc (by simp))
  have hA1X : A1 ≠ X := a1_ne mk.prs mk.str a1
  have hB2X : B2 ≠ X := b2_ne mk.prs hlp b2
  have a13 : OneMap w3 A1 0 := HJ.out.2.heap a1 (by simpa using hA1X)
  have b23 : OneMap w3 B2 l.length := HJ.out.2.heap b2 (by simpa using hB2X)
  have nR : ∀ {b : Nat} {o : Obj},w3.heap[b]? = some o → o ≠ zeroPart → b ∉ [R] := by
   intro b o hb ho hx
   simp at hx
   subst hx
   rw [hR3] at hb
   exact ho (Option.some.inj hb).symm
  have n6 : P6 ≠ R := by simpa using nR h63 (by simp)
  have n7 : P7 ≠ R := by simpa using nR h73 (by simp)
  have HBA := fun wx (h : Only [R] w3 wx) => both_any A1 0 wx (h.heap a13 (nR a13 (by simp)))
  have HBB := fun wx (h : Only [R] w3 wx) => both_any B2 l.length wx (h.heap b23 (nR b23 (by simp)))
  have HSM := fun (A : Nat) wx => some_any A wx
  have o30 : Only [R] w3 w3 := Only.refl _ _
  have HR3 := LH hR3
  clear h6 h7 a1 b1 a2 b2 mk hoc hvc nM h63 h73 hA1X hB2X a13 b23 nR hRc hR3
  refine wp_region_held_drew (S := (fun w' => Only [R] w3 w' ∧ w'.cell? ⟨P6,0,none⟩ = some (.map (some A1)) ∧ w'.cell? ⟨P6,1,none⟩ = some (.map (some B1)) ∧ w'.cell? ⟨P6,2,none⟩ = some (.bool false) ∧ w'.cell? ⟨P7,0,none⟩ = some (.map (some A2)) ∧ w'.cell? ⟨P7,1,none⟩ = some (.map (some B2)) ∧ w'.cell? ⟨P7,2,none⟩ = some (.bool false))) (by kernel_rfl) ⟨o30.drew,u0,u1,u2,t0,t1,t2⟩ (fun hHeld => ?_)
  refine wJ 0 ?_
  try simp only [Act.put]
  refine wJ 1 ?_
  try simp only [Act.put]
  refine wJ 2 ?_
  try simp only [Act.put]
  refine wJ 3 ?_
  try simp only [Act.put]
  refine wJ 4 ?_
  try simp only [Act.put]
  refine wJ 5 ?_
  try simp only [Act.put]
  refine wJ 8 ?_
  try simp only [Act.put]
  refine wJ 9 ?_
  try simp only [Act.put]
  refine wJ 10 ?_
  try simp only [Act.put]
  refine wJ 11 ?_
  try simp only [Act.put]
  refine wJ 12 ?_
  try simp only [Act.put]
  refine wJ 13 ?_
  try simp only [Act.put]
  refine wJ 16 ?_
  try simp only [Act.put]
  refine wJ 17 ?_
  try simp only [Act.put]
  refine wpAnyH_ready (rs := [6]) (by kernel_rfl) (by simp) ?_
  refine AllReadyH.cons (o := _) rfl (fun K hK => ?_) AllReadyH.nil
  go_simp
  refine (HSM _ _).mono ?_;rintro e w4 ⟨rfl,rfl⟩
  refine hK.out _ _ ?_ (fun hHeld => ?_)
  ·exact hHeld
  clear hK K
  try simp only [Act.put]
  refine wpAnyH_ready (rs := [7]) (by kernel_rfl) (by simp) ?_
  refine AllReadyH.cons (o := _) rfl (fun K hK => ?_) AllReadyH.nil
  go_simp
  refine (HBA _ hHeld.1).mono ?_;rintro e w4 ⟨X1,rfl,hx1,hx2,ho4⟩
  refine hK.out _ _ ?_ (fun hHeld => ?_)
  ·exact keep7 hHeld ho4
  clear hK K
  try simp only [Act.put]
  refine wpAnyH_ready (rs := [14]) (by kernel_rfl) (by simp) ?_
  refine AllReadyH.cons (o := _) rfl (fun K hK => ?_) AllReadyH.nil
  go_simp
  refine (HSM _ _).mono ?_;rintro e w5 ⟨rfl,rfl⟩
  refine hK.out _ _ ?_ (fun hHeld => ?_)
  ·exact hHeld
  clear hK K
  try simp only [Act.put]
  refine wpAnyH_ready (rs := [15]) (by kernel_rfl) (by simp) ?_
  refine AllReadyH.cons (o := _) rfl (fun K hK => ?_) AllReadyH.nil
  go_simp
  refine (HBB _ hHeld.1).mono ?_;rintro e w5 ⟨X2,rfl,hx3,hx4,ho5⟩
  refine hK.out _ _ ?_ (fun hHeld => ?_)
  ·exact keep7 hHeld ho5
  clear hK K
  try simp only [Act.put]
  refine wJ 18 ?_
  try simp only [Act.put]
  refine wpAnyH_take (i := 19) (oi := _) (v := undef) rfl (by kernel_rfl) (by kernel_rfl) (by kernel_rfl) (fun _ _ _ h => h) (Or.inr ⟨by rfl,rfl⟩) (by assumption) ?_
  try simp only [Act.put]
  refine wpAnyH_take (i := 20) (oi := _) (v := undef) rfl (by kernel_rfl) (by kernel_rfl) (by kernel_rfl) (fun _ _ _ h => h) (Or.inr ⟨by rfl,rfl⟩) (by assumption) ?_
  try simp only [Act.put]
  refine wJ 21 ?_
  try simp only [Act.put]
  refine wJ 22 ?_
  try simp only [Act.put]
  have o35 : Only [] w3 w5 := ((o0d w3).trans ho4).trans ho5
  have hR5 := map_old HR3.out o35
  obtain ⟨r0,r1,r2,r3,r4,r5⟩ := zero_cells hR5
  refine wpAnyH_ready (rs := [23]) (by kernel_rfl) (by simp) ?_
  refine AllReadyH.cons (o := _) rfl (fun K hK => ?_) AllReadyH.nil
  go_simp
  refine hK.out _ _ ?_ (fun hHeld => ?_)
  ·exact keepR hHeld (three_only w5 R _ _ _) n6 n6 n6 n7 n7 n7
  clear hK K
  try simp only [Act.put]
  refine wpAnyH_done (by kernel_rfl) ?_ _
  go_wp2_with fail
  have h9 := three_set hR5 (.map (some X1)) (.map (some X2)) (.bool false)
  refine bodyPost_ret (results_cell_row (p := 4) (ty := 271) (cs := #[.map (some X1),.map (some X2),.bool false]) rfl _ _ R 271 (fr := (0,0)) _ rfl h9 Tryz.underlying271 rfl size271) rfl ?_
  exact mk_fin HE.out HJ.out o35 hx1 (map_old hx2 ho5) hx3 hx4 (by have e1 := HH.out.2.1;have e2 := HH.out.2.2.1;omega) rfl hwb HH.out.2.2.2.2.2.2.1 hR5 (three_only w5 R _ _ _) ho4.size
theorem make_any (w0 : World) (lo base M X : Nat) (x : Array Value) (l : List UInt8) (hx : NodeAt w0 lo x l) (hb : base = w0.heap.size) : ∀ (vs : Value) (w : World),l.length ≤ 1000 → Only [] w0 w → MkAt w base M X vs [] 0 →
  Calls Tryz.prog 125 #[.pointer (some ⟨M,0,none⟩),.agg x] w (MkPost w base M X vs l) := by
 induction hx with
 | one c => exact fun vs w _ _ h => mk_one base M X vs c w h
 | snoc g x l c hx hg hh ih =>
  intro vs w hl ho h
  obtain ⟨kd,n1,n2,n3,n4,a,m,k,rfl⟩ := hx.form
  have hl' : l.length ≤ 999 := by simp at hl;omega
  exact mk_then w0 lo g kd n1 n2 n3 n4 a m k l c base M X vs w hx hh hb ho h hl' (fun vs wx ho' h' => ih vs wx (by omega) ho' h')
end Go.Proofs.YtplaamfoeaaaiaaGreatDoor
