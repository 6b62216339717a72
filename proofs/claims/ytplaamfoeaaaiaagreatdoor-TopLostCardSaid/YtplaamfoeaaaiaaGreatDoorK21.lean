/- A part of the proofs of the laws of lifelinetop (TopNever, TopLost, TopRoom): contracts of functions that these laws reach. No condition of its own. -/
import Derived.Test.YtplaamfoeaaaiaaGreatDoorK02
import Derived.Test.YtplaamfoeaaaiaaGreatDoorK13
import Derived.Test.YtplaamfoeaaaiaaGreatDoorK20
import Derived.Deep.RegionLawGrows
set_option maxRecDepth 100000
set_option maxHeartbeats 8000000
set_option linter.unusedVariables false
namespace Go.Proofs.YtplaamfoeaaaiaaGreatDoor
open Go.RowKit
open Go.ChangeMaps (setBlock)
def firstV (k : Nat) : List Value := (List.range k).map fun j => .bool (j == 0)
def lastV (n k : Nat) : List Value := (List.range k).map fun j => .bool (j + 1 == n)
def rowsV (n : Nat) (rows : List Nat) : List Value := rows.map fun g => .slice (some ⟨g,0,none⟩) n n
theorem firstV_succ (k : Nat) : firstV (k + 1) = firstV k ++ [.bool (k == 0)] := by simp [firstV,List.range_succ]
theorem lastV_succ (n k : Nat) : lastV n (k + 1) = lastV n k ++ [.bool (k + 1 == n)] := by simp [lastV,List.range_succ]
theorem rowsV_snoc (n : Nat) (rows : List Nat) (g : Nat) : rowsV n (rows ++ [g]) = rowsV n rows ++ [.slice (some ⟨g,0,none⟩) n n] := by simp [rowsV]
theorem Tag.stepN {G : Nat → Nat} {w : World} {i j : Nat} {f f' : List Nat} (h : Tag G j f) (hl : Live w f) (hc : (∀ b,b ∈ f' → b ∈ f) ∨ (i = j ∧ Grow f f' w)) : Tag (retag G w.heap.size i) j f' := by
 rcases hc with hc | ⟨rfl,hc⟩
 ·exact Tag.keep (fun b hb => h b (hc b hb)) (fun b hb => hl b (hc b hb))
 ·exact h.grow hc
theorem retag_oldN {G : Nat → Nat} {n i b : Nat} (h : b < n) : retag G n i b = G b := by unfold retag;rw [if_pos h]
structure OfAt (w : World) (M X A B PT T n : Nat) (vs vn vf vl : Value) (l : List UInt8) (kf kl : Nat) (rows : List Nat) (G : Nat → Nat) : Prop where
 mkr : MkAt w 0 M X vs l (l.length - 1)
 pt : w.heap[PT]? = some (.cells #[.map (some A),.map (some B),.bool false] 271 (0,0))
 hA : OneMap w A 0
 hB : OneMap w B (l.length - 1 : Nat)
 str : w.heap[T]? = some (.cells #[vs,vn,vf,vl,.bool false] 274 (0,0))
 rf : w.ownsRow (T + 1) 4 1 vf kf (firstV kf)
 rl : w.ownsRow (T + 1) 4 1 vl kl (lastV n kl)
 rn : w.ownsRow (T + 1) 244 1 vn rows.length (rowsV n rows)
 rr : ∀ j g,rows[j]? = some g → w.rowIs g 4 n (fun i => .bool (i == j + 1)) ∧ T < g
 old : M < T ∧ X < T ∧ PT < T ∧ A < T ∧ B < T ∧ ∀ g,vs.ownBlock = some g → g < T
 gf : Tag G 1 (ownL vf)
 gl : Tag G 2 (ownL vl)
 gn : Tag G 3 (ownL vn)
 gr : Tag G 4 rows
 hn : n = l.length
theorem OfAt.live {w : World} {M X A B PT T n kf kl : Nat} {vs vn vf vl : Value} {l : List UInt8} {rows : List Nat} {G : Nat → Nat} (h : OfAt w M X A B PT T n vs vn vf vl l kf kl rows G) : Live w (ownL vf) ∧ Live w (ownL vl) ∧ Live w (ownL vn) ∧ Live w rows :=
 ⟨fun b hb => (h.rf.lt b (mem_ownL.1 hb)).2,fun b hb => (h.rl.lt b (mem_ownL.1 hb)).2,fun b hb => (h.rn.lt b (mem_ownL.1 hb)).2,fun b hb => by
  obtain ⟨j,hj⟩ := List.getElem?_of_mem hb
  exact (h.rr j b hj).1.lt⟩
theorem OfAt.of_none {w w' : World} {M X A B PT T n kf kl : Nat} {vs vn vf vl : Value} {l : List UInt8} {rows : List Nat} {G : Nat → Nat} (h : OfAt w M X A B PT T n vs vn vf vl l kf kl rows G) (ho : Only [] w w') : OfAt w' M X A B PT T n vs vn vf vl l kf kl rows G :=
 ⟨h.mkr.of_none ho,map_old h.pt ho,map_old h.hA ho,map_old h.hB ho,map_old h.str ho,ownsRow_only h.rf ho (by simp),ownsRow_only h.rl ho (by simp),ownsRow_only h.rn ho (by simp),fun j g hj => ⟨(h.rr j g hj).1.of_block (ho.block g (h.rr j g hj).1.lt (by simp)),(h.rr j g hj).2⟩,h.old,h.gf,h.gl,h.gn,h.gr,h.hn⟩
theorem OfAt.step {w w' : World} {M X A B PT T n kf kl kf' kl' : Nat} {vs vn vf vl vn' vf' vl' : Value} {l : List UInt8} {rows rows' : List Nat} {G : Nat → Nat} {ks : List Nat} (i : Nat) (h : OfAt w M X A B PT T n vs vn vf vl l kf kl rows G) (ho : Only (T :: ks) w w') (hks : ∀ b,b ∈ ks → T < b) (str : w'.heap[T]? = some (.cells #[vs,vn',vf',vl',.bool false] 274 (0,0))) (rf : w'.ownsRow (T + 1) 4 1 vf' kf' (firstV kf')) (rl : w'.ownsRow (T + 1) 4 1 vl' kl' (lastV n kl')) (rn : w'.ownsRow (T + 1) 244 1 vn' rows'.length (rowsV n rows')) (rr : ∀ j g,rows'[j]? = some g → w'.rowIs g 4 n (fun i => .bool (i == j + 1)) ∧ T < g) (cf : (∀ b,b ∈ ownL vf' → b ∈ ownL vf) ∨ (i = 1 ∧ Grow (ownL vf) (ownL vf') w)) (cl : (∀ b,b ∈ ownL vl' → b ∈ ownL vl) ∨ (i = 2 ∧ Grow (ownL vl) (ownL vl') w)) (cn : (∀ b,b ∈ ownL vn' → b ∈ ownL vn) ∨ (i = 3 ∧ Grow (ownL vn) (ownL vn') w)) (gr : Tag (retag G w.heap.size i) 4 rows') :
  OfAt w' M X A B PT T n vs vn' vf' vl' l kf' kl' rows' (retag G w.heap.size i) := by
 obtain ⟨o1,o2,o3,o4,o5,o6⟩ := h.old
 obtain ⟨l1,l2,l3,l4⟩ := h.live
 have nk : ∀ b,b < T → b ∉ (T :: ks) := by
  intro b hb hm
  rcases List.mem_cons.1 hm with h' | h'
  ·omega
  ·have := hks b h';omega
 exact ⟨h.mkr.of_only ho (nk _ o1) (nk _ o2) (fun g e => nk _ (o6 g e)),ho.heap h.pt (nk _ o3),ho.heap h.hA (nk _ o4),ho.heap h.hB (nk _ o5),str,rf,rl,rn,rr,h.old,h.gf.stepN l1 cf,h.gl.stepN l2 cl,h.gn.stepN l3 cn,gr,h.hn⟩
theorem push_only {w w1 : World} {o : Obj} {T i : Nat} {v u : Value} (hg : (w.alloc o).drew.grownBy w1 v.ownBlock) : Only (T :: ownL v) w (w1.setCell ⟨T,i,none⟩ u) :=
 ((((Only.refl _ w).alloc o).drew).trans ((only_grown hg).weaken (fun x hx => List.mem_cons_of_mem _ hx))).setCell (by simp) u
theorem push_str {w w1 : World} {o : Obj} {T i : Nat} {v u : Value} {c c' : Array Value} (hg : (w.alloc o).drew.grownBy w1 v.ownBlock) (h : w.heap[T]? = some (.cells c 274 (0,0))) (hT : v.ownBlock ≠ some T) (hc : c.setIfInBounds i u = c') : (w1.setCell ⟨T,i,none⟩ u).heap[T]? = some (.cells c' 274 (0,0)) := by
 refine hs_same ?_ hc
 rw [hg.block T (by have := heap_lt h;simp;omega) (Ne.symm hT)]
 exact ((Only.refl [] w).alloc o).heap h (by simp)
theorem push_grow {w : World} {v : Value} {gg n cp : Nat} (h : v.ownBlock = some gg ∨ gg = w.heap.size + 1) : Grow (ownL v) (ownL (.slice (some ⟨gg,0,none⟩) n cp)) w := by
 intro b hb
 simp [ownL,Value.ownBlock] at hb
 subst hb
 rcases h with h | h
 ·exact .inl (mem_ownL.2 h)
 ·right;omega
theorem push_row {w1 : World} {T base e n i : Nat} {v u : Value} {xs : List Value} (h : w1.ownsRow base e 1 v n xs) (hT : T < base) : (w1.setCell ⟨T,i,none⟩ u).ownsRow base e 1 v n xs :=
 ownsRow_only h (only_set w1 T i u) (fun g e => by have := (h.lt g e).1;simp;omega)
theorem OfAt.other {w w' : World} {M X A B PT T n kf kl : Nat} {vs vn vf vl : Value} {l : List UInt8} {rows : List Nat} {G : Nat → Nat} {v : Value} {i : Nat} (h : OfAt w M X A B PT T n vs vn vf vl l kf kl rows G) (ho : Only (T :: ownL v) w w') (hv : Tag G i (ownL v)) : (i ≠ 1 → w'.ownsRow (T + 1) 4 1 vf kf (firstV kf)) ∧ (i ≠ 2 → w'.ownsRow (T + 1) 4 1 vl kl (lastV n kl)) ∧ (i ≠ 3 → w'.ownsRow (T + 1) 244 1 vn rows.length (rowsV n rows)) ∧ (i ≠ 4 → ∀ j g,rows[j]? = some g → w'.rowIs g 4 n (fun i => .bool (i == j + 1)) ∧ T < g) := by
 have key : ∀ {b j : Nat},G b = j → i ≠ j → T < b → b ∉ (T :: ownL v) := by
  intro b j hb hij hT hm
  rcases List.mem_cons.1 hm with h' | h'
  ·omega
  ·exact hij ((hv b h').symm.trans hb)
 refine ⟨fun hi => ownsRow_only h.rf ho (fun g e => key (h.gf g (mem_ownL.2 e)) hi (by have := (h.rf.lt g e).1;omega)),fun hi => ownsRow_only h.rl ho (fun g e => key (h.gl g (mem_ownL.2 e)) hi (by have := (h.rl.lt g e).1;omega)),fun hi => ownsRow_only h.rn ho (fun g e => key (h.gn g (mem_ownL.2 e)) hi (by have := (h.rn.lt g e).1;omega)),fun hi j g hj => ?_⟩
 obtain ⟨r1,r2⟩ := h.rr j g hj
 exact ⟨r1.of_block (ho.block g r1.lt (key (h.gr g (List.mem_of_getElem? hj)) hi r2)),r2⟩
theorem OfAt.ne {w : World} {M X A B PT T n kf kl : Nat} {vs vn vf vl : Value} {l : List UInt8} {rows : List Nat} {G : Nat → Nat} (h : OfAt w M X A B PT T n vs vn vf vl l kf kl rows G) : vf.ownBlock ≠ some T ∧ vl.ownBlock ≠ some T ∧ vn.ownBlock ≠ some T :=
 ⟨fun e => by have := (h.rf.lt T e).1;omega,fun e => by have := (h.rl.lt T e).1;omega,fun e => by have := (h.rn.lt T e).1;omega⟩
theorem OfAt.pushF {w w1 : World} {M X A B PT T n kf kl : Nat} {vs vn vf vl : Value} {l : List UInt8} {rows : List Nat} {G : Nat → Nat} {o : Obj} {gg cp : Nat} (h : OfAt w M X A B PT T n vs vn vf vl l kf kl rows G) (own : w1.ownsRow (T + 1) 4 1 (.slice (some ⟨gg,0,none⟩) (kf + 1) cp) (kf + 1) (firstV kf ++ [.bool (kf == 0)])) (grow : (w.alloc o).drew.grownBy w1 vf.ownBlock) (at' : vf.ownBlock = some gg ∨ gg = w.heap.size + 1) :
  OfAt (w1.setCell ⟨T,2,none⟩ (.slice (some ⟨gg,0,none⟩) (kf + 1) cp)) M X A B PT T n vs vn (.slice (some ⟨gg,0,none⟩) (kf + 1) cp) vl l (kf + 1) kl rows (retag G w.heap.size 1) := by
 have ho := push_only (T := T) (i := 2) (u := .slice (some ⟨gg,0,none⟩) (kf + 1) cp) grow
 obtain ⟨_,p2,p3,p4⟩ := h.other ho h.gf
 refine h.step 1 ho (fun b hb => by have := (h.rf.lt b (mem_ownL.1 hb)).1;omega) (push_str grow h.str h.ne.1 rfl) ?_ (p2 (by omega)) (p3 (by omega)) (p4 (by omega)) (.inr ⟨rfl,push_grow at'⟩) (.inl fun b hb => hb) (.inl fun b hb => hb) (h.gr.keep h.live.2.2.2)
 rw [firstV_succ];exact push_row own (by omega)
theorem OfAt.pushL {w w1 : World} {M X A B PT T n kf kl : Nat} {vs vn vf vl : Value} {l : List UInt8} {rows : List Nat} {G : Nat → Nat} {o : Obj} {gg cp : Nat} (h : OfAt w M X A B PT T n vs vn vf vl l kf kl rows G) (own : w1.ownsRow (T + 1) 4 1 (.slice (some ⟨gg,0,none⟩) (kl + 1) cp) (kl + 1) (lastV n kl ++ [.bool (kl + 1 == n)])) (grow : (w.alloc o).drew.grownBy w1 vl.ownBlock) (at' : vl.ownBlock = some gg ∨ gg = w.heap.size + 1) :
  OfAt (w1.setCell ⟨T,3,none⟩ (.slice (some ⟨gg,0,none⟩) (kl + 1) cp)) M X A B PT T n vs vn vf (.slice (some ⟨gg,0,none⟩) (kl + 1) cp) l kf (kl + 1) rows (retag G w.heap.size 2) := by
 have ho := push_only (T := T) (i := 3) (u := .slice (some ⟨gg,0,none⟩) (kl + 1) cp) grow
 obtain ⟨p1,_,p3,p4⟩ := h.other ho h.gl
 refine h.step 2 ho (fun b hb => by have := (h.rl.lt b (mem_ownL.1 hb)).1;omega) (push_str grow h.str h.ne.2.1 rfl) (p1 (by omega)) ?_ (p3 (by omega)) (p4 (by omega)) (.inl fun b hb => hb) (.inr ⟨rfl,push_grow at'⟩) (.inl fun b hb => hb) (h.gr.keep h.live.2.2.2)
 rw [lastV_succ];exact push_row own (by omega)
theorem OfAt.pushN {w w1 : World} {M X A B PT T n kf kl r : Nat} {vs vn vf vl : Value} {l : List UInt8} {rows : List Nat} {G : Nat → Nat} {o : Obj} {gg cp : Nat} (h : OfAt w M X A B PT T n vs vn vf vl l kf kl rows G) (own : w1.ownsRow (T + 1) 244 1 (.slice (some ⟨gg,0,none⟩) (rows.length + 1) cp) (rows.length + 1) (rowsV n rows ++ [.slice (some ⟨r,0,none⟩) n n])) (grow : (w.alloc o).drew.grownBy w1 vn.ownBlock) (at' : vn.ownBlock = some gg ∨ gg = w.heap.size + 1) (hr : w.rowIs r 4 n (fun i => .bool (i == rows.length + 1))) (hrT : T < r) (hr1 : r ∉ ownL vf) (hr2 : r ∉ ownL vl) (hr3 : r ∉ ownL vn) :
  ∃ G',OfAt (w1.setCell ⟨T,1,none⟩ (.slice (some ⟨gg,0,none⟩) (rows.length + 1) cp)) M X A B PT T n vs (.slice (some ⟨gg,0,none⟩) (rows.length + 1) cp) vf vl l kf kl (rows ++ [r]) G' := by
 have ho := push_only (T := T) (i := 1) (u := .slice (some ⟨gg,0,none⟩) (rows.length + 1) cp) grow
 obtain ⟨p1,p2,_,p4⟩ := h.other ho h.gn
 have hlen : (rows ++ [r]).length = rows.length + 1 := by simp
 have hG : OfAt w M X A B PT T n vs vn vf vl l kf kl rows (fun b => if b = r then 4 else G b) := by
  refine { h with gf := ?_,gl := ?_,gn := ?_,gr := ?_ }
  ·intro b hb;show (if b = r then 4 else G b) = 1;rw [if_neg (fun e => hr1 (by rw [← e];exact hb))];exact h.gf b hb
  ·intro b hb;show (if b = r then 4 else G b) = 2;rw [if_neg (fun e => hr2 (by rw [← e];exact hb))];exact h.gl b hb
  ·intro b hb;show (if b = r then 4 else G b) = 3;rw [if_neg (fun e => hr3 (by rw [← e];exact hb))];exact h.gn b hb
  ·intro b hb;show (if b = r then 4 else G b) = 4;split
   ·rfl
   ·exact h.gr b hb
 refine ⟨_,hG.step 3 ho (fun b hb => by have := (h.rn.lt b (mem_ownL.1 hb)).1;omega) (push_str grow h.str h.ne.2.2 rfl) (p1 (by omega)) (p2 (by omega)) ?_ ?_ (.inl fun b hb => hb) (.inl fun b hb => hb) (.inr ⟨rfl,push_grow at'⟩) ?_⟩
 ·rw [hlen,rowsV_snoc];exact push_row own (by omega)
 ·intro j g hj
  rcases Nat.lt_trichotomy j rows.length with hlt | heq | hgt
  ·rw [List.getElem?_append_left hlt] at hj
   exact p4 (by omega) j g hj
  ·subst heq
   simp at hj
   subst hj
   refine ⟨hr.of_block (ho.block r hr.lt ?_),hrT⟩
   intro hm
   rcases List.mem_cons.1 hm with h' | h'
   ·omega
   ·exact hr3 h'
  ·rw [List.getElem?_eq_none (by simp;omega)] at hj;cases hj
 ·intro b hb
  rcases List.mem_append.1 hb with h' | h'
  ·have hl := h.live.2.2.2 b h'
   rw [retag_oldN hl]
   show (if b = r then 4 else G b) = 4
   split
   ·rfl
   ·exact h.gr b h'
  ·simp at h'
   subst h'
   rw [retag_oldN hr.lt];simp
theorem look_one (w : World) (A k a : Nat) (h : OneMap w A a) : (Instr.lookup 269 (.map (some A)) (.int .i64 k) false).run Tryz.prog w = .ok (.bool (k == a)) w := by
 have hz := Tryz.zeroValue4 w
 have hf : (Instr.findKey 3 (.int .i64 k) [entI a]).run Tryz.prog w = .ok (if k = a then some (0,Value.bool true) else none) w := by
  simp only [Instr.findKey,Instr.findNow,Sem.run_bind,run_underlying Tryz.underlying3,Result.andThen,Instr.sameNow]
  by_cases e : k = a
  ·subst e;simp
  ·have : ((k : Int) == (a : Int)) = false := by simp only [beq_eq_false_iff_ne];omega
   simp [this,e]
 simp only [Instr.lookup,Sem.run_bind,run_underlying u269,Result.andThen,MapKept.run_getObj_map h,Sem.run_pure,checkI,hf]
 by_cases e : k = a
 ·simp [e]
 ·have : (k == a) = false := by simpa using e
  simp [e,hz]
theorem info244 : (Tryz.prog.info? 244).map (fun i => (i.zero,i.size,i.bytes)) = some (some (.slice none 0 0),1,24) := by kernel_rfl
theorem setCells_get (l : List UInt8) (k : Nat) (b : UInt8) (h : l[k]? = some b) : (setCells l)[k * 4]? = some (bitV b 0) ∧ (setCells l)[k * 4 + 1]? = some (bitV b 1) ∧ (setCells l)[k * 4 + 2]? = some (bitV b 2) ∧ (setCells l)[k * 4 + 3]? = some (bitV b 3) := by
 induction l generalizing k with
 | nil => simp at h
 | cons c r ih =>
  cases k with
  | zero =>
   simp at h
   subst h
   exact ⟨rfl,rfl,rfl,rfl⟩
  | succ k =>
   simp only [List.getElem?_cons_succ] at h
   obtain ⟨h0,h1,h2,h3⟩ := ih k h
   have e : ∀ j,(setCells (c :: r))[(k + 1) * 4 + j]? = (setCells r)[k * 4 + j]? := by
    intro j
    have hc : setCells (c :: r) = [bitV c 0,bitV c 1,bitV c 2,bitV c 3] ++ setCells r := by simp [setCells]
    rw [hc,List.getElem?_append_right (by simp;omega)]
    congr 1
    simp;omega
   exact ⟨by have := e 0;simp only [Nat.add_zero] at this;rw [this];exact h0,by rw [e 1];exact h1,by rw [e 2];exact h2,by rw [e 3];exact h3⟩
theorem row_block {w : World} {base e size n : Nat} {v : Value} {xs : List Value} (h : w.ownsRow base e size v n xs) (hn : 0 < n) : ∃ g c,v = .slice (some ⟨g,0,none⟩) n c ∧ base ≤ g ∧ g < w.heap.size := by
 obtain ⟨g,c,rfl,hb,hl⟩ := h.form hn
 exact ⟨g,c,rfl,hb,hl⟩
theorem OfAt.tab {w : World} {M X A B PT T n : Nat} {vs vn vf vl : Value} {l : List UInt8} {rows : List Nat} {G : Nat → Nat} (h : OfAt w M X A B PT T n vs vn vf vl l n n rows G) (hr : rows.length = n) (hp : 0 < l.length) (hl : l.length ≤ 64) :
  ∃ gs gn gf gl cs cn cf cl ro,TabAt w ro T gs gn gf gl cs cn cf cl l ∧ (∀ b,b ∈ ro → T ≤ b ∨ vs.ownBlock = some b) ∧ Live w ro := by
 have hn := h.hn
 subst hn
 obtain ⟨gs,cs,rfl,_,c0⟩ := row_block h.mkr.sets hp
 obtain ⟨gn,cn,rfl,b1,c1⟩ := row_block h.rn (by omega)
 obtain ⟨gf,cf,rfl,b2,c2⟩ := row_block h.rf hp
 obtain ⟨gl,cl,rfl,b3,c3⟩ := row_block h.rl hp
 have hs := h.str
 rw [hr] at hs
 refine ⟨gs,gn,gf,gl,cs,cn,cf,cl,T :: gs :: gn :: gf :: gl :: rows,⟨hs,⟨by simp,by simp,by simp,by simp,by simp⟩,fun k b hk => ?_,fun k hk => ?_,fun k hk => ?_,fun k hk => ?_,⟨hp,hl⟩⟩,fun b hb => ?_,fun b hb => ?_⟩
 ·obtain ⟨e0,e1,e2,e3⟩ := setCells_get l k b hk
  have hkl := (List.getElem?_eq_some_iff.1 hk).1
  exact ⟨(h.mkr.sets.cellAt (k * 4) (by omega)).trans e0,(h.mkr.sets.cellAt (k * 4 + 1) (by omega)).trans e1,(h.mkr.sets.cellAt (k * 4 + 2) (by omega)).trans e2,(h.mkr.sets.cellAt (k * 4 + 3) (by omega)).trans e3⟩
 ·obtain ⟨g,hg⟩ : ∃ g,rows[k]? = some g := ⟨_,List.getElem?_eq_getElem (by omega)⟩
  have h1 := h.rn.cellAt k (by omega)
  have h2 : (rowsV l.length rows)[k]? = some (.slice (some ⟨g,0,none⟩) l.length l.length) := by simp [rowsV,hg]
  exact ⟨g,l.length,by simp [List.mem_of_getElem? hg],h1.trans h2,fun i hi => (h.rr k g hg).1.cell hi⟩
 ·exact (h.rf.cellAt k (by omega)).trans (by simp [firstV,hk])
 ·exact (h.rl.cellAt k (by omega)).trans (by simp [lastV,hk])
 ·simp only [List.mem_cons] at hb
  rcases hb with rfl | rfl | rfl | rfl | rfl | hb
  ·exact .inl (Nat.le_refl _)
  ·right;rfl
  ·left;omega
  ·left;omega
  ·left;omega
  ·obtain ⟨j,hj⟩ := List.getElem?_of_mem hb
   have := (h.rr j b hj).2
   left;omega
 ·simp only [List.mem_cons] at hb
  rcases hb with rfl | rfl | rfl | rfl | rfl | hb
  ·exact heap_lt hs
  ·exact c0
  ·exact c1
  ·exact c2
  ·exact c3
  ·obtain ⟨j,hj⟩ := List.getElem?_of_mem hb
   exact (h.rr j b hj).1.lt
theorem grown_drew {w w' : World} {row : Option Nat} (h : w.grownBy w' row) : w.drew.grownBy w' row := ⟨h.os,h.tape,h.output,h.size,h.block⟩
def OfLoop (wc : World) (M X A B PT T n : Nat) (vs : Value) (l : List UInt8) (k : Nat) (wr : World) : Prop :=
 ∃ vn vf vl rows G,rows.length = k ∧ OfAt wr M X A B PT T n vs vn vf vl l k k rows G ∧ Only [T] wc wr
theorem nof_any (lo : Nat) (x : Array Value) (l : List UInt8) (w : World) (hx : NodeAt w lo x l) (hl : l.length ≤ 64) :
  Calls Tryz.prog 105 #[.agg x] w fun e w' => ∃ T gs gn gf gl cs cn cf cl ro,e = .returned (.pointer (some ⟨T,0,none⟩)) ∧ TabAt w' ro T gs gn gf gl cs cn cf cl l ∧ (∀ b,b ∈ ro → w.heap.size ≤ b) ∧ Only [] w w' ∧ Live w' ro := by
 obtain ⟨kd,n1,n2,n3,n4,na,nm,nc,rfl⟩ := hx.form
 have hlp : 0 < l.length := List.length_pos_iff.2 hx.ne
 have hmk := fun w => run_makeMap (P := Tryz.prog) 265 w
 obtain ⟨N,hN⟩ : ∃ N,N = w.heap.size := ⟨_,rfl⟩
 obtain ⟨X,hX⟩ : ∃ X,X = N + 1 := ⟨_,rfl⟩
 obtain ⟨M,hM⟩ : ∃ M,M = X + 1 := ⟨_,rfl⟩
 obtain ⟨w1,hw1⟩ : ∃ w1,w1 = (w.alloc (.cells (nodeA kd n1 n2 n3 n4 na nm nc) 227)).alloc (.map #[] 0) := ⟨_,rfl⟩
 obtain ⟨w2,hw2⟩ : ∃ w2,w2 = w1.alloc (.cells #[.slice none 0 0,.map (some X)] 268) := ⟨_,rfl⟩
 have hs1 : w1.heap.size = M := by rw [hw1,hM,hX,hN];simp
 have hz2 : w2.heap[N]? = some (.cells (nodeA kd n1 n2 n3 n4 na nm nc) 227 (0,0)) := by
  rw [hw2,hw1];exact (((Only.refl [] _).alloc _).alloc _).heap (by rw [hN];exact heap_alloc_new w _) (by simp)
 have hX2 : Pairs w2 X 0 := by
  have e := heap_alloc_new (w.alloc (.cells (nodeA kd n1 n2 n3 n4 na nm nc) 227)) (.map #[] 0)
  have e2 : (w.alloc (.cells (nodeA kd n1 n2 n3 n4 na nm nc) 227)).heap.size = X := by rw [hX,hN];simp
  rw [e2,← hw1] at e
  unfold Pairs
  rw [hw2]
  exact map_old e ((Only.refl [] _).alloc _)
 have hM2 : w2.heap[M]? = some (.cells #[.slice none 0 0,.map (some X)] 268 (0,0)) := by rw [hw2,← hs1];exact heap_alloc_new w1 _
 have o2 : Only [] w w2 := by rw [hw2,hw1];exact (((Only.refl [] w).alloc _).alloc _).alloc _
 have hmk2 : MkAt w2 w.heap.size M X (.slice none 0 0) [] 0 := ⟨hM2,World.ownsRow_nil _ _ _ _,hX2,by simp [Value.ownBlock],by simp [Value.ownBlock],o2.size,by omega,by omega⟩
 have hcall := make_any w lo w.heap.size M X (nodeA kd n1 n2 n3 n4 na nm nc) l hx rfl (.slice none 0 0) w2 (by omega) o2 hmk2
 obtain ⟨x0,x1,x2,x3,x4,x5⟩ := node_loads hz2
 have HH := LH (AI hw1 (AI hw2 (AI hN (AI hX (AI hM (AI hs1 (AI o2 hlp)))))))
 have hNw : w.heap.size ≤ N := by omega
 have hXM : w.heap.size < M := by omega
 clear hw1 hw2 hN hX hM hs1 o2 hz2 hX2 hM2 hmk2 hx hlp
 go_enter Tryz.func105,Tryz.ntmps105
 go_upto_region 2 with fail
 rw [← HH.out.2.2.1,← HH.out.2.2.2.1,← HH.out.2.2.2.2.1,← HH.out.1,← HH.out.2.1]
 go_upto_region 3 with (go_at_call 125;refine (hcall).mono ?_;rintro e w3 ⟨A,B,vs,rfl,h1⟩;have H3 := LH h1;clear h1)
 obtain ⟨PT,hPT⟩ : ∃ PT,PT = w3.heap.size := ⟨_,rfl⟩
 obtain ⟨w4,hw4⟩ : ∃ w4,w4 = w3.alloc (.cells #[.map (some A),.map (some B),.bool false] 271) := ⟨_,rfl⟩
 have hP4 : w4.heap[PT]? = some (.cells #[.map (some A),.map (some B),.bool false] 271 (0,0)) := by rw [hw4,hPT];exact heap_alloc_new w3 _
 have o34 : Only [] w3 w4 := by rw [hw4];exact (Only.refl [] w3).alloc _
 rw [← hw4,← hPT]
 obtain ⟨g1,g2,g3,g4,g5,g6,g7⟩ := H3.out
 have hM4 := map_old g5.str o34
 obtain ⟨va,vc,rfl⟩ := own_slice g5.sets
 have c0 : w4.cell? ⟨M,0,none⟩ = some (.slice va l.length vc) := cell_at hM4 rfl
 have p0 : w4.cell? ⟨PT,0,none⟩ = some (.map (some A)) := cell_at hP4 rfl
 have p2 : w4.cell? ⟨PT,2,none⟩ = some (.bool false) := cell_at hP4 rfl
 have hs4 : w4.heap.size = PT + 1 := by rw [hw4,hPT];simp
 have H4 := LH (AI hP4 (AI o34 (AI hs4 hPT)))
 clear hw4 hPT hP4 o34 hM4 g1 g2 g3 g4 g5 g6 g7 hs4 hcall x0 x1 x2 x3 x4 x5 p0
 have hMl : M < w4.heap.size := World.block_lt_of_cell? w4 _ c0
 have hPl : PT < w4.heap.size := World.block_lt_of_cell? w4 _ p2
 go_still_tail 7,(by kernel_rfl)
 go_wp2_with fail
 obtain ⟨T,hT⟩ : ∃ T,T = w4.heap.size := ⟨_,rfl⟩
 obtain ⟨w5,hw5⟩ : ∃ w5,w5 = (w4.alloc (.cells #[.slice va l.length vc,.slice none 0 0,.slice none 0 0,.slice none 0 0,.bool false] 274)).drew := ⟨_,rfl⟩
 have hT5 : w5.heap[T]? = some (.cells #[.slice va l.length vc,.slice none 0 0,.slice none 0 0,.slice none 0 0,.bool false] 274 (0,0)) := by rw [hw5,hT];exact heap_alloc_new w4 _
 have o45 : Only [] w4 w5 := by rw [hw5];exact ((Only.refl [] w4).alloc _).drew
 rw [← hw5,← hT]
 obtain ⟨g1,g2,g3,g4,g5,g6,g7⟩ := H3.out
 have o35 := H4.out.2.1.trans o45
 have hMP : M < PT := by have := heap_lt g5.str;have := H4.out.2.2.2;omega
 have hXP : X < PT := by have := heap_lt g5.prs;have := H4.out.2.2.2;omega
 have hAP : A < PT := by have := heap_lt g3;have := H4.out.2.2.2;omega
 have hBP : B < PT := by have := heap_lt g4;have := H4.out.2.2.2;omega
 have hPT : PT < T := by have := H4.out.2.2.1;omega
 have h0 : OfAt w5 M X A B PT T l.length (.slice va l.length vc) (.slice none 0 0) (.slice none 0 0) (.slice none 0 0) l 0 0 [] (fun _ => 0) := by
  have mk5 := g5.of_none o35
  refine ⟨⟨mk5.str,ownsRow_base mk5.sets (Nat.zero_le _),mk5.prs,mk5.sM,mk5.sX,Nat.zero_le _,Nat.zero_le _,Nat.zero_le _⟩,map_old H4.out.1 o45,map_old g3 o35,map_old g4 o35,hT5,World.ownsRow_nil _ _ _ _,World.ownsRow_nil _ _ _ _,World.ownsRow_nil _ _ _ _,fun j g hj => by simp at hj,⟨by omega,by omega,hPT,by omega,by omega,fun g e => ?_⟩,?_,?_,?_,?_,rfl⟩
  ·have h1 := (g5.sets.lt g e).2;have h2 := H4.out.2.2.2;omega
  all_goals (intro b hb;simp [ownL,Value.ownBlock] at hb)
 have hall : Only [] w w5 := (HH.out.2.2.2.2.2.2.1.fresh' g6 (by
  intro b hb
  simp only [List.mem_cons,ownL,Value.ownBlock] at hb
  have e1 := HH.out.2.2.2.1
  have e2 := HH.out.2.2.1
  rcases hb with h' | h' | h'
  ·omega
  ·omega
  ·simp at h')).trans o35
 have H5 := LH (AI h0 (AI hall hT))
 have hs5 : w5.heap.size ≤ T + 1 := by rw [hw5,hT];simp
 have hTw : w.heap.size ≤ T := by have e1 := H4.out.2.2.1;have := HH.out.2.2.2.2.2.2.1.size;have := g6.size;have := H4.out.2.2.2;omega
 have hll : l.length ≤ 64 := hl
 clear hw5 hT hT5 o45 g1 g2 g3 g4 g5 g6 g7 o35 h0 hall c0 p2 hMl hPl hmk
 go_loopw [28] (fun s28 wr => ∃ k : Nat,k ≤ l.length ∧ s28 = .int .i64 k ∧ OfLoop w5 M X A B PT T l.length (.slice va l.length vc) l k wr) (fun s28 _ => l.length - (intOf s28).toNat)
 case atStart => exact ⟨0,Nat.zero_le _,rfl,_,_,_,[],_,rfl,H5.out.1,Only.refl _ _⟩
 case round =>
  obtain ⟨k,hk,rfl,vn,vf,vl,rows,G,hrk,hof,ho⟩ := hrel
  by_cases hlt : k < l.length
  ·have k1 : (k : Int) < (l.length : Int) := by omega
   have k2 : (0 : Int) ≤ (k : Int) := by omega
   obtain ⟨af,cf,rfl⟩ := own_slice hof.rf
   have HX := LH (AI hrk (AI hof ho))
   clear hrk hof ho
   go_upto_region 7 with fail
   go_cut [6,41] (fun s6 _ wx => s6 = .int .i64 k ∧ ∃ vf' G',OfAt wx M X A B PT T l.length (.slice va l.length vc) vn vf' vl l (k + 1) k rows G' ∧ Only [T] w5 wx)
   case first =>
    have hof := HX.out.2.1
    have t2 : wr.cell? ⟨T,2,none⟩ = some (.slice af k cf) := cell_at hof.str rfl
    have f2 : wr.frozen? ⟨T,2,none⟩ = false := free_at hof.str
    have p0 : wr.cell? ⟨PT,0,none⟩ = some (.map (some A)) := cell_at hof.pt rfl
    have hlk := look_one wr.drew A k 0 hof.hA
    obtain ⟨i4,a0,a1,a2,a3⟩ := info_parts info4
    have hTr := heap_lt hof.str
    have HI := LH (AI a0 (AI a1 (AI a2 a3)))
    have hne := hof.ne.1
    have hfin : ∀ gg cp w6,w6.ownsRow (T + 1) 4 1 (.slice (some ⟨gg,0,none⟩) (k + 1) cp) (k + 1) (firstV k ++ [.bool (k == 0)]) → (wr.alloc (.cells #[.bool (k == 0)] 4)).drew.grownBy w6 (Value.slice af k cf).ownBlock → ((Value.slice af k cf).ownBlock = some gg ∨ gg = wr.heap.size + 1) →
      ∃ vf' G',OfAt (w6.setCell ⟨T,2,none⟩ (.slice (some ⟨gg,0,none⟩) (k + 1) cp)) M X A B PT T l.length (.slice va l.length vc) vn vf' vl l (k + 1) k rows G' ∧ Only [T] w5 (w6.setCell ⟨T,2,none⟩ (.slice (some ⟨gg,0,none⟩) (k + 1) cp)) := by
     intro gg cp w6 q1 q2 q3
     refine ⟨_,_,hof.pushF q1 q2 q3,?_⟩
     exact HX.out.2.2.trans' (push_only q2) (by intro b hb;rcases List.mem_cons.1 hb with h' | h';simp [h'];right;have := (hof.rf.lt b (mem_ownL.1 h')).1;omega)
    have HF := LH hfin
    have hrow := hof.rf
    have HRW := LH hrow
    clear hof hfin a0 a1 a2 a3 hrow
    go_region_law (refine step_append_lies _ (by rfl) _ _ _ (by rfl) (T + 1) 4 i4 _ 1 1 Tryz.underlying244 HI.out.1 HI.out.2.1 HI.out.2.2.1 HI.out.2.2.2 rfl (by omega) (.slice af k cf) k (firstV k) (by rfl) (HRW.out.alloc _) ⟨wr.heap.size,0,none⟩ 1 1 [.bool (k == 0)] (by rfl) (by rfl) (World.news_of_block (cs := #[.bool (k == 0)]) (t := 4) (fr := (0,0)) (heap_alloc_new wr _)) (by simp [Value.oneCell']) (by omega) (by unfold maxLen;omega) (by omega) (by simp;omega) (wr.heap.size + 1) (by simp) ?_;intro gg cp w6 own6 grow6 at6 lt6;have f26 : w6.frozen? ⟨T,2,none⟩ = false := (grow6.frozen_far ⟨T,2,none⟩ (by simp;omega) (Ne.symm hne)).trans ((World.frozen?_alloc_past _ _ _ (by omega)).trans f2);have cv26 : w6.cell? ⟨T,2,none⟩ = some (.slice af k cf) := (grow6.cell_far ⟨T,2,none⟩ (by simp;omega) (Ne.symm hne)).trans ((World.cell?_alloc_past _ _ _ (by omega)).trans t2))
    all_goals go_wp2_with fail
    all_goals go_meet
    all_goals exact ⟨rfl,HF.out _ _ _ own6 grow6 at6⟩
   case rest =>
    obtain ⟨rfl,vf',G',hof',ho'⟩ := hcut
    obtain ⟨al,cl',rfl⟩ := own_slice hof'.rl
    have HX8 := LH (AI HX.out.1 (AI hof' ho'))
    clear hof' ho'
    go_upto_region 8 with fail
    go_cut [6,54] (fun s6 _ wx => s6 = .int .i64 k ∧ ∃ vl' G',OfAt wx M X A B PT T l.length (.slice va l.length vc) vn vf' vl' l (k + 1) (k + 1) rows G' ∧ Only [T] w5 wx)
    case first =>
     have hof := HX8.out.2.1
     have t2 : wc.cell? ⟨T,3,none⟩ = some (.slice al k cl') := cell_at hof.str rfl
     have f2 : wc.frozen? ⟨T,3,none⟩ = false := free_at hof.str
     have p0 : wc.cell? ⟨PT,1,none⟩ = some (.map (some B)) := cell_at hof.pt rfl
     have hlk := look_one wc.drew B k (l.length - 1) hof.hB
     have hke : (k == l.length - 1) = (k + 1 == l.length) := by rw [Bool.eq_iff_iff];simp;omega
     rw [hke] at hlk
     obtain ⟨i4,a0,a1,a2,a3⟩ := info_parts info4
     have hTr := heap_lt hof.str
     have HI := LH (AI a0 (AI a1 (AI a2 a3)))
     have hne := hof.ne.2.1
     have hfin : ∀ gg cp w6,w6.ownsRow (T + 1) 4 1 (.slice (some ⟨gg,0,none⟩) (k + 1) cp) (k + 1) (lastV l.length k ++ [.bool (k + 1 == l.length)]) → (wc.alloc (.cells #[.bool (k + 1 == l.length)] 4)).drew.grownBy w6 (Value.slice al k cl').ownBlock → ((Value.slice al k cl').ownBlock = some gg ∨ gg = wc.heap.size + 1) →
       ∃ vl' G',OfAt (w6.setCell ⟨T,3,none⟩ (.slice (some ⟨gg,0,none⟩) (k + 1) cp)) M X A B PT T l.length (.slice va l.length vc) vn vf' vl' l (k + 1) (k + 1) rows G' ∧ Only [T] w5 (w6.setCell ⟨T,3,none⟩ (.slice (some ⟨gg,0,none⟩) (k + 1) cp)) := by
      intro gg cp w6 q1 q2 q3
      refine ⟨_,_,hof.pushL q1 q2 q3,?_⟩
      exact HX8.out.2.2.trans' (push_only q2) (by intro b hb;rcases List.mem_cons.1 hb with h' | h';simp [h'];right;have := (hof.rl.lt b (mem_ownL.1 h')).1;omega)
     have HF := LH hfin
     have hrow := hof.rl
     have HRW := LH hrow
     clear hof hfin a0 a1 a2 a3 hrow hke
     go_region_law (refine step_append_lies _ (by rfl) _ _ _ (by rfl) (T + 1) 4 i4 _ 1 1 Tryz.underlying244 HI.out.1 HI.out.2.1 HI.out.2.2.1 HI.out.2.2.2 rfl (by omega) (.slice al k cl') k (lastV l.length k) (by rfl) (HRW.out.alloc _) ⟨wc.heap.size,0,none⟩ 1 1 [.bool (k + 1 == l.length)] (by rfl) (by rfl) (World.news_of_block (cs := #[.bool (k + 1 == l.length)]) (t := 4) (fr := (0,0)) (heap_alloc_new wc _)) (by simp [Value.oneCell']) (by omega) (by unfold maxLen;omega) (by omega) (by simp;omega) (wc.heap.size + 1) (by simp) ?_;intro gg cp w6 own6 grow6 at6 lt6;have f26 : w6.frozen? ⟨T,3,none⟩ = false := (grow6.frozen_far ⟨T,3,none⟩ (by simp;omega) (Ne.symm hne)).trans ((World.frozen?_alloc_past _ _ _ (by omega)).trans f2);have cv26 : w6.cell? ⟨T,3,none⟩ = some (.slice al k cl') := (grow6.cell_far ⟨T,3,none⟩ (by simp;omega) (Ne.symm hne)).trans ((World.cell?_alloc_past _ _ _ (by omega)).trans t2))
     all_goals go_wp2_with fail
     all_goals go_meet
     all_goals exact ⟨rfl,HF.out _ _ _ own6 grow6 at6⟩
    case rest =>
     obtain ⟨rfl,vl',G',hof',ho'⟩ := hcut
     have cM : wc.cell? ⟨M,0,none⟩ = some (.slice va l.length vc) := cell_at hof'.mkr.str rfl
     have hMl := heap_lt hof'.mkr.str
     have hmk := fun w => mk_bools w l.length hll
     have HX9 := LH (AI HX.out.1 (AI hof' ho'))
     clear hof' ho'
     go_upto_region 11 with fail
     obtain ⟨R,hR⟩ : ∃ R,R = wc.heap.size := ⟨_,rfl⟩
     obtain ⟨wd,hwd⟩ : ∃ wd,wd = wc.alloc (.cells (madeCells #[.bool false] l.length) 4) := ⟨_,rfl⟩
     have hrow : wd.rowIs R 4 l.length (fun _ => .bool false) := by rw [hwd,hR];exact World.rowIs_made wc (.bool false) l.length 4
     have od : Only [] wc wd := by rw [hwd];exact (Only.refl [] wc).alloc _
     have HD := LH (AI hrow (AI od hR))
     rw [← hwd,← hR]
     have hRw : wc.heap.size ≤ R := by omega
     clear hrow od hwd hR cM hmk
     go_loopw [65] (fun s65 wy => ∃ i : Nat,i ≤ l.length ∧ s65 = .int .i64 i ∧ wy.rowIs R 4 l.length (fun j => .bool (decide (j < i) && j == k + 1)) ∧ Only [] wc wy) (fun s65 _ => l.length - (intOf s65).toNat)
     case atStart => exact ⟨0,Nat.zero_le _,rfl,HD.out.1.congr (fun i hi => by simp),HD.out.2.1⟩
     case round =>
      obtain ⟨i,hi,rfl,hrow,ho⟩ := hrel
      by_cases hlt2 : i < l.length
      ·have i1 : (i : Int) < (l.length : Int) := by omega
       have i2 : (0 : Int) ≤ (i : Int) := by omega
       have hofy := HX9.out.2.1.of_none ho
       have cM1 : wr.cell? ⟨M,1,none⟩ = some (.map (some X)) := cell_at hofy.mkr.str rfl
       have hbk := build275 k i wr
       have hlk := look_pair wr X (l.length - 1) k i hofy.mkr.prs
       have hke : decide (k < l.length - 1 ∧ i = k + 1) = (i == k + 1) := by rw [Bool.eq_iff_iff];simp;omega
       rw [hke] at hlk
       have rc := hrow.cell hlt2
       have rf := hrow.frozen i
       have HY := LH (AI hrow ho)
       clear hrow ho hofy hke
       go_wp2_with fail
       have hrow9 := HY.out.1.set i (.bool (i == k + 1))
       refine ⟨⟨i + 1,by omega,by go_num,hrow9.congr (fun j hj => ?_),HY.out.2.setFresh hRw _⟩,by simp [intOf];omega⟩
       by_cases e : j = i
       ·subst e;simp
       ·rw [if_neg e]
        exact congrArg Value.bool (by
                       have e2 : (j < i) = (j < i + 1) := by rw [eq_iff_iff];omega
                       simp [e2])
      ·obtain rfl : i = l.length := by omega
       have hrk : rows.length = k := HX.out.1
       have hofy := HX9.out.2.1.of_none ho
       obtain ⟨an,cn,rfl⟩ := own_slice hofy.rn
       have HY := LH (AI (hrow.congr (g := fun j => .bool (j == rows.length + 1)) (fun j hj => by simp [hj,hrk])) (AI hofy (AI hrk ho)))
       have HZ := LH (AI HX9.out.2.1.live HX9.out.2.2)
       have t1 : wr.cell? ⟨T,1,none⟩ = some (.slice an k cn) := by rw [← hrk];exact cell_at hofy.str rfl
       have f1 : wr.frozen? ⟨T,1,none⟩ = false := free_at hofy.str
       have hTr := heap_lt hofy.str
       have hne : (Value.slice an k cn).ownBlock ≠ some T := by rw [← hrk];exact hofy.ne.2.2
       have hown : wr.ownsRow (T + 1) 244 1 (.slice an k cn) k (rowsV l.length rows) := by have := hofy.rn;rwa [hrk] at this
       obtain ⟨i5,a0,a1,a2,a3⟩ := info_parts info244
       have HI := LH (AI a0 (AI a1 (AI a2 (AI a3 hown))))
       have hfin : ∀ gg cp w6,w6.ownsRow (T + 1) 244 1 (.slice (some ⟨gg,0,none⟩) (k + 1) cp) (k + 1) (rowsV l.length rows ++ [.slice (some ⟨R,0,none⟩) l.length l.length]) → (wr.alloc (.cells #[.slice (some ⟨R,0,none⟩) l.length l.length] 244)).drew.grownBy w6 (Value.slice an k cn).ownBlock → ((Value.slice an k cn).ownBlock = some gg ∨ gg = wr.heap.size + 1) →
         OfLoop w5 M X A B PT T l.length (.slice va l.length vc) l (k + 1) (w6.setCell ⟨T,1,none⟩ (.slice (some ⟨gg,0,none⟩) (k + 1) cp)) := by
        intro gg cp w6 q1 q2 q3
        subst hrk
        obtain ⟨v1,v2,v3,v4⟩ := HZ.out.1
        obtain ⟨G9,hq⟩ := hofy.pushN q1 q2 q3 HY.out.1 (by have := HX9.out.2.1.str;have := heap_lt this;omega) (fun hm => by have := v1 R hm;omega) (fun hm => by have := v2 R hm;omega) (fun hm => by have := v3 R hm;omega)
        refine ⟨_,_,_,_,G9,by simp,hq,(HZ.out.2.trans (ho.weaken (by simp))).trans' (push_only q2) (by intro b hb;rcases List.mem_cons.1 hb with h' | h';simp [h'];right;have := (hofy.rn.lt b (mem_ownL.1 h')).1;omega)⟩
       have HF := LH hfin
       clear hrow ho hofy hrk hown a0 a1 a2 a3 hfin
       go_upto_region 15 with fail
       go_wp2_with (at_builtin;refine wpList_append_lies _ rfl (.tmp 84) (.tmp 86) 218 rfl (T + 1) 244 i5 (.slice none 0 0) 1 24 Tryz.underlying218 HI.out.1 HI.out.2.1 HI.out.2.2.1 HI.out.2.2.2.1 rfl (by omega) (.slice an k cn) k (rowsV l.length rows) rfl (HI.out.2.2.2.2.alloc _) ⟨wr.heap.size,0,none⟩ 1 1 [.slice (some ⟨R,0,none⟩) l.length l.length] rfl rfl (World.news_of_block (cs := #[.slice (some ⟨R,0,none⟩) l.length l.length]) (t := 244) (fr := (0,0)) (heap_alloc_new wr _)) (by simp [Value.oneCell']) (by omega) (by unfold maxLen;omega) (by omega) (by simp;omega) (wr.heap.size + 1) (by simp) ?_;intro gg cp w6 own6 grow6 at6 lt6;have f26 : w6.frozen? ⟨T,1,none⟩ = false := (grow6.frozen_far ⟨T,1,none⟩ (by simp;omega) (Ne.symm hne)).trans ((World.frozen?_alloc_past _ _ _ (by omega)).trans f1);have cv26 : w6.cell? ⟨T,1,none⟩ = some (.slice an k cn) := (grow6.cell_far ⟨T,1,none⟩ (by simp;omega) (Ne.symm hne)).trans ((World.cell?_alloc_past _ _ _ (by omega)).trans t1))
       exact ⟨⟨k + 1,by omega,by go_num,HF.out _ _ _ own6 (grown_drew grow6) at6⟩,by simp [intOf];omega⟩
  ·obtain rfl : k = l.length := by omega
   have HX := LH (AI hrk (AI hof ho))
   clear hrk hof ho
   go_wp2_with fail
   go_ret
   obtain ⟨gs,gn,gf,gl,cs,cn,cf,cl,ro,htab,hro,hlv⟩ := HX.out.2.1.tab HX.out.1 HH.out.2.2.2.2.2.2.2 hll
   refine ⟨T,gs,gn,gf,gl,cs,cn,cf,cl,ro,rfl,htab,fun b hb => ?_,H5.out.2.1.fresh' HX.out.2.2 (by intro b hb;simp at hb;omega),hlv⟩
   rcases hro b hb with h' | h'
   ·omega
   ·rcases H3.out.2.2.2.2.2.2 b h' with h8 | h8
    ·simp [Value.ownBlock] at h8
    ·have := HH.out.2.2.2.2.2.2.1.size;omega
end Go.Proofs.YtplaamfoeaaaiaaGreatDoor
