/- A part of the proofs of the laws of lifelinetop (TopNever, TopLost, TopRoom): contracts of functions that these laws reach. No condition of its own. -/
import Derived.Test.YtplaamfoeaaaiaaGreatDoorK01
import Derived.Test.YtplaamfoeaaaiaaGreatDoorK02
import Derived.Test.YtplaamfoeaaaiaaGreatDoorK13
import Derived.Test.YtplaamfoeaaaiaaGreatDoorK15
import Derived.Deep.RegionWith
import Derived.Deep.RegionHeld3
import Derived.BigQuiet
import Derived.Laws.Cover2
set_option maxRecDepth 100000
set_option maxHeartbeats 8000000
set_option linter.unusedVariables false
namespace Go.Proofs.YtplaamfoeaaaiaaGreatDoor
open Go.RowKit
def AtRow (w : World) (ro : List Nat) (v : Value) (bs : List Bool) (n : Nat) : Prop :=
 (v = .slice none 0 0 ∧ bs = []) ∨ ∃ g,v = .slice (some ⟨g,0,none⟩) n n ∧ g ∈ ro ∧ bs.length = n ∧ w.rowIs g 4 n (fun i => .bool (bs.getD i false))
theorem AtRow.of_only {w w' : World} {ro ks : List Nat} {v : Value} {bs : List Bool} {n : Nat} (h : AtRow w ro v bs n) (ho : Only ks w w') (hs : Sep ro ks) : AtRow w' ro v bs n := by
 rcases h with h | ⟨g,h1,h2,h3,h4⟩
 ·exact .inl h
 ·exact .inr ⟨g,h1,h2,h3,h4.of_block (ho.block g h4.lt (hs g h2))⟩
theorem AtRow.more {w : World} {ro ro' : List Nat} {v : Value} {bs : List Bool} {n : Nat} (h : AtRow w ro v bs n) (hs : ∀ b,b ∈ ro → b ∈ ro') : AtRow w ro' v bs n := by
 rcases h with h | ⟨g,h1,h2,h3,h4⟩
 ·exact .inl h
 ·exact .inr ⟨g,h1,hs g h2,h3,h4⟩
structure WatAt (w : World) (W ga gt ca ct : Nat) (ro : List Nat) (vs : List Value) (lits : List M.B) (ats : List (List Bool)) (over : Bool) : Prop where
 str : ∃ seen : Int,w.heap[W]? = some (.cells #[.slice (some ⟨gt,0,none⟩) lits.length ct,.slice (some ⟨ga,0,none⟩) lits.length ca,.int .i64 seen,.bool over] 221 (0,0))
 row : ∃ cs : Array Value,w.heap[ga]? = some (.cells cs 244 (0,0)) ∧ cs.toList = vs
 len : vs.length = lits.length ∧ ats.length = lits.length ∧ lits.length ≤ 8
 at_ : ∀ (k : Nat) (l : M.B) (v : Value) (bs : List Bool),lits[k]? = some l → vs[k]? = some v → ats[k]? = some bs → AtRow w ro v bs l.length
 tab : ∀ (k : Nat) (l : M.B),lits[k]? = some l → ∃ T gs gn gf gl cs cn cf cl,w.cell? ⟨gt,k,none⟩ = some (.pointer (some ⟨T,0,none⟩)) ∧ TabAt w ro T gs gn gf gl cs cn cf cl l
 inr : gt ∈ ro
 sep : W ≠ ga ∧ W ∉ ro ∧ ga ∉ ro
 live : Live w ro
def Watched (w : World) (W : Nat) (fp : List Nat) (x : M.Watch) : Prop := ∃ ga gt ca ct ro vs,fp = W :: ga :: ro ∧ WatAt w W ga gt ca ct ro vs x.lits x.ats x.over
theorem WatAt.of_only {w w' : World} {W ga gt ca ct : Nat} {ro ks : List Nat} {vs : List Value} {lits : List M.B} {ats : List (List Bool)} {over : Bool} (h : WatAt w W ga gt ca ct ro vs lits ats over) (ho : Only ks w w') (hs : Sep (W :: ga :: ro) ks) : WatAt w' W ga gt ca ct ro vs lits ats over := by
 obtain ⟨sn,h1⟩ := h.str
 obtain ⟨cs,h2,h3⟩ := h.row
 have hr : Sep ro ks := fun b hb => hs b (by simp [hb])
 refine ⟨⟨sn,ho.heap h1 (hs _ (by simp))⟩,⟨cs,ho.heap h2 (hs _ (by simp)),h3⟩,h.len,fun k l v bs e1 e2 e3 => (h.at_ k l v bs e1 e2 e3).of_only ho hr,fun k l e => ?_,h.inr,h.sep,h.live.ev ho.size⟩
 obtain ⟨T,gs,gn,gf,gl,cs,cn,cf,cl,t1,t2⟩ := h.tab k l e
 exact ⟨T,gs,gn,gf,gl,cs,cn,cf,cl,ho.cell t1 (hr _ h.inr),t2.of_only ho hr⟩
theorem Watched.of_only {w w' : World} {W : Nat} {fp ks : List Nat} {x : M.Watch} (h : Watched w W fp x) (ho : Only ks w w') (hs : Sep fp ks) : Watched w' W fp x := by
 obtain ⟨ga,gt,ca,ct,ro,vs,rfl,h⟩ := h
 exact ⟨ga,gt,ca,ct,ro,vs,rfl,h.of_only ho hs⟩
theorem Watched.live {w : World} {W : Nat} {fp : List Nat} {x : M.Watch} (h : Watched w W fp x) : Live w fp ∧ W ∈ fp := by
 obtain ⟨ga,gt,ca,ct,ro,vs,rfl,h⟩ := h
 obtain ⟨sn,h1⟩ := h.str
 obtain ⟨cs,h2,_⟩ := h.row
 refine ⟨fun b hb => ?_,by simp⟩
 simp only [List.mem_cons] at hb
 rcases hb with rfl | rfl | hb
 ·exact heap_lt h1
 ·exact heap_lt h2
 ·exact h.live b hb
theorem stepW_eq (l : M.B) (bs : List Bool) (c : UInt8) (h : bs = [] ∨ bs.length = l.length) (k : Nat) (hk : k < l.length) : (M.stepW l bs c).getD k false = stepF l (fun i => bs.getD i false) bs.length c k := by
 unfold M.stepW stepF stepIs
 rw [List.getD_eq_getElem?_getD,List.getElem?_map,List.getElem?_range hk]
 simp only [Option.map_some,Option.getD_some]
 congr 2
 by_cases h1 : k ≤ bs.length
 ·simp [h1]
 ·rcases h with rfl | h
  ·simp
  ·omega
theorem stepW_length (l : M.B) (bs : List Bool) (c : UInt8) : (M.stepW l bs c).length = l.length := by simp [M.stepW]
theorem stepW_last (l : M.B) (bs : List Bool) (c : UInt8) : (M.stepW l bs c).getLast?.getD false = (M.stepW l bs c).getD (l.length - 1) false := by
 rw [List.getLast?_eq_getElem?,stepW_length,List.getD_eq_getElem?_getD]
theorem WatAt.upd {w w2 : World} {W ga gt ca ct g k : Nat} {ro : List Nat} {vs : List Value} {lits : List M.B} {ats : List (List Bool)} {over : Bool} {l : M.B} {bs : List Bool} (h : WatAt w W ga gt ca ct ro vs lits ats over) (ho : Only [] w w2) (hk : lits[k]? = some l) (hg : w.heap.size ≤ g) (hb : bs.length = l.length) (hr : w2.rowIs g 4 l.length (fun i => .bool (bs.getD i false))) :
  WatAt (w2.setCell ⟨ga,k,none⟩ (.slice (some ⟨g,0,none⟩) l.length l.length)) W ga gt ca ct (g :: ro) (vs.set k (.slice (some ⟨g,0,none⟩) l.length l.length)) lits (ats.set k bs) over := by
 have h2 := h.of_only ho (fun b _ => by simp)
 obtain ⟨sn,h3⟩ := h2.str
 obtain ⟨cs,h4,h5⟩ := h2.row
 obtain ⟨s1,s2,s3⟩ := h.sep
 have hWl := heap_lt (h.str.choose_spec)
 have hgl : ga < w.heap.size := by obtain ⟨cs',h4',_⟩ := h.row;exact heap_lt h4'
 have hset := only_set w2 ga k (.slice (some ⟨g,0,none⟩) l.length l.length)
 have hnr : Sep ro [ga] := fun b hb hx => by simp at hx;exact s3 (hx ▸ hb)
 have hsub : ∀ b,b ∈ ro → b ∈ g :: ro := fun b hb => List.mem_cons_of_mem _ hb
 have hkl := (List.getElem?_eq_some_iff.1 hk).1
 refine ⟨⟨sn,hset.heap h3 (by simpa using s1)⟩,⟨_,heap_set_same h4,by rw [← h5];simp⟩,⟨by simpa using h.len.1,by simpa using h.len.2.1,h.len.2.2⟩,fun j l' v bs' e1 e2 e3 => ?_,fun j l' e => ?_,List.mem_cons_of_mem _ h.inr,⟨s1,?_,?_⟩,?_⟩
 ·rw [List.getElem?_set] at e2 e3
  by_cases hj : k = j
  ·subst hj
   rw [hk] at e1
   cases e1
   rw [if_pos rfl,if_pos (by have := h.len.1;omega)] at e2
   rw [if_pos rfl,if_pos (by have := h.len.2.1;omega)] at e3
   cases e2;cases e3
   exact .inr ⟨g,rfl,by simp,hb,hr.of_block (hset.block g hr.lt (by simp;omega))⟩
  ·rw [if_neg hj] at e2 e3
   exact ((h2.at_ j l' v bs' e1 e2 e3).of_only hset hnr).more hsub
 ·obtain ⟨T,gs,gn,gf,gl,cs,cn,cf,cl,t1,t2⟩ := h2.tab j l' e
  have t3 := t2.of_only hset hnr
  obtain ⟨i1,i2,i3,i4,i5⟩ := t3.inT
  exact ⟨T,gs,gn,gf,gl,cs,cn,cf,cl,hset.cell t1 (hnr _ h.inr),⟨t3.str,⟨hsub _ i1,hsub _ i2,hsub _ i3,hsub _ i4,hsub _ i5⟩,t3.sets,fun k hk => by obtain ⟨g,c,q1,q2⟩ := t3.next k hk;exact ⟨g,c,hsub _ q1,q2⟩,t3.first,t3.last,t3.len⟩⟩
 ·simp only [List.mem_cons,not_or];exact ⟨by omega,s2⟩
 ·simp only [List.mem_cons,not_or];exact ⟨by omega,s3⟩
 ·intro b hb'
  rcases List.mem_cons.1 hb' with rfl | hb'
  ·exact Nat.lt_of_lt_of_le hr.lt hset.size
  ·exact (h2.live.ev hset.size) b hb'
theorem WatAt.own {w w' : World} {W ga gt ca ct : Nat} {ro : List Nat} {vs : List Value} {lits : List M.B} {ats : List (List Bool)} {over over' : Bool} {sn : Int} (h : WatAt w W ga gt ca ct ro vs lits ats over) (ho : Only [W] w w') (hs : w'.heap[W]? = some (.cells #[.slice (some ⟨gt,0,none⟩) lits.length ct,.slice (some ⟨ga,0,none⟩) lits.length ca,.int .i64 sn,.bool over'] 221 (0,0))) : WatAt w' W ga gt ca ct ro vs lits ats over' := by
 obtain ⟨cs,h2,h3⟩ := h.row
 obtain ⟨s1,s2,s3⟩ := h.sep
 have hr : Sep ro [W] := fun b hb hx => by simp at hx;exact s2 (hx ▸ hb)
 refine ⟨⟨sn,hs⟩,⟨cs,ho.heap h2 (by simpa using s1.symm),h3⟩,h.len,fun k l v bs e1 e2 e3 => (h.at_ k l v bs e1 e2 e3).of_only ho hr,fun k l e => ?_,h.inr,h.sep,h.live.ev ho.size⟩
 obtain ⟨T,gs,gn,gf,gl,cs,cn,cf,cl,t1,t2⟩ := h.tab k l e
 exact ⟨T,gs,gn,gf,gl,cs,cn,cf,cl,ho.cell t1 (hr _ h.inr),t2.of_only ho hr⟩
def lastT (a : List Bool) : Bool := a.getLast?.getD false
def newAts (x : M.Watch) (c : UInt8) : List (List Bool) := (x.lits.zip x.ats).map fun y => M.stepW y.1 y.2 c
def bestI (aa : List (List Bool)) : Int := match aa.findIdx? lastT with
 | none => -1
 | some k => (k : Int)
theorem put_none (x : M.Watch) (c : UInt8) (h : x.over = false) (hn : (newAts x c).findIdx? lastT = none) : x.put c = (none,{ x with ats := newAts x c }) := by
 unfold M.Watch.put
 rw [if_neg (by simp [h])]
 show (match (newAts x c).findIdx? lastT with
  | none => (none,{ x with ats := newAts x c })
  | some k => (some k,{ x with ats := newAts x c,over := true })) = _
 rw [hn]
theorem put_some (x : M.Watch) (c : UInt8) (k : Nat) (h : x.over = false) (hn : (newAts x c).findIdx? lastT = some k) : x.put c = (some k,{ x with ats := newAts x c,over := true }) := by
 unfold M.Watch.put
 rw [if_neg (by simp [h])]
 show (match (newAts x c).findIdx? lastT with
  | none => (none,{ x with ats := newAts x c })
  | some k => (some k,{ x with ats := newAts x c,over := true })) = _
 rw [hn]
theorem newAts_get (x : M.Watch) (c : UInt8) (k : Nat) (l : M.B) (bs : List Bool) (h1 : x.lits[k]? = some l) (h2 : x.ats[k]? = some bs) : (newAts x c)[k]? = some (M.stepW l bs c) := by
 unfold newAts
 rw [List.getElem?_map,List.getElem?_zip_eq_some (z := (l,bs)).2 ⟨h1,h2⟩]
 rfl
theorem newAts_length (x : M.Watch) (c : UInt8) (h : x.ats.length = x.lits.length) : (newAts x c).length = x.lits.length := by simp [newAts,h]
theorem bestI_snoc (aa : List (List Bool)) (a : List Bool) : bestI (aa ++ [a]) = if bestI aa < 0 ∧ lastT a = true then (aa.length : Int) else bestI aa := by
 unfold bestI
 rw [List.findIdx?_append]
 cases h : aa.findIdx? lastT with
 | some k => simp;omega
 | none =>
  cases ha : lastT a with
  | true => simp [List.findIdx?_cons,ha]
  | false => simp [List.findIdx?_cons,ha]
def putV : Option Nat → Value
 | none => .tuple #[.int .i64 0,.bool false]
 | some k => .tuple #[.int .i64 k,.bool true]
def PutLoop (w : World) (W ga gt ca ct : Nat) (ro0 : List Nat) (x : M.Watch) (c : UInt8) (k : Nat) (wr : World) : Prop :=
 ∃ ro vs ats',WatAt wr W ga gt ca ct ro vs x.lits ats' false ∧ (∀ j,ats'[j]? = if j < k then (newAts x c)[j]? else x.ats[j]?) ∧ Only [W,ga] w wr ∧ (∀ b,b ∈ ro → b ∈ ro0 ∨ w.heap.size ≤ b)
theorem AtRow.slice {w : World} {ro : List Nat} {v : Value} {bs : List Bool} {n : Nat} (h : AtRow w ro v bs n) : ∃ (a : Option Addr) (m cc : Nat),v = .slice a m cc ∧ m ≤ n ∧ bs.length = m ∧ (bs = [] ∨ bs.length = n) ∧ ∀ i,i < m → ∃ g,a = some ⟨g,0,none⟩ ∧ w.cell? ⟨g,i,none⟩ = some (.bool (bs.getD i false)) := by
 rcases h with ⟨rfl,rfl⟩ | ⟨g,rfl,_,h3,h4⟩
 ·exact ⟨none,0,0,rfl,Nat.zero_le _,rfl,.inl rfl,fun i hi => absurd hi (Nat.not_lt_zero _)⟩
 ·exact ⟨_,n,n,rfl,Nat.le_refl _,h3,.inr h3,fun i hi => ⟨g,rfl,h4.cell hi⟩⟩
theorem row_cell {w : World} {g k : Nat} {cs : Array Value} {t : Nat} {vs : List Value} {v : Value} (h : w.heap[g]? = some (.cells cs t (0,0))) (e : cs.toList = vs) (hv : vs[k]? = some v) : w.cell? ⟨g,k,none⟩ = some v := cell_at h (by rw [← e] at hv;simpa using hv)
theorem wat_round {w : World} {W ga gt ca ct : Nat} {ro : List Nat} {vs : List Value} {lits : List M.B} {ats : List (List Bool)} {over : Bool} (h : WatAt w W ga gt ca ct ro vs lits ats over) (c : UInt8) (k : Nat) (hk : k < lits.length) :
  ∃ (l : M.B) (bs : List Bool) (T : Nat) (a : Option Addr) (m cc : Nat),lits[k]? = some l ∧ ats[k]? = some bs ∧ w.cell? ⟨ga,k,none⟩ = some (.slice a m cc) ∧ w.cell? ⟨gt,k,none⟩ = some (.pointer (some ⟨T,0,none⟩)) ∧
   ∀ w1,Only [] w w1 → Calls Tryz.prog 110 #[.pointer (some ⟨T,0,none⟩),.slice a m cc,byteV c,.bool true] w1 fun e w2 => ∃ g,e = .returned (.slice (some ⟨g,0,none⟩) l.length l.length) ∧ w.heap.size ≤ g ∧ w2.frozen? ⟨ga,k,none⟩ = false ∧ Only [] w w2 ∧ w2.rowIs g 4 l.length (fun j => .bool ((M.stepW l bs c).getD j false)) := by
 obtain ⟨e1,e2,e3⟩ := h.len
 obtain ⟨l,hl⟩ : ∃ l,lits[k]? = some l := ⟨_,List.getElem?_eq_getElem hk⟩
 obtain ⟨bs,hb⟩ : ∃ l,ats[k]? = some l := ⟨_,List.getElem?_eq_getElem (by omega)⟩
 obtain ⟨v,hv⟩ : ∃ l,vs[k]? = some l := ⟨_,List.getElem?_eq_getElem (by omega)⟩
 obtain ⟨a,m,cc,rfl,hm,hbl,hb0,hcl⟩ := (h.at_ k l v bs hl hv hb).slice
 obtain ⟨T,gs,gn,gf,gl,cs,cn,cf,cl,t1,t2⟩ := h.tab k l hl
 obtain ⟨ks,r1,r2⟩ := h.row
 refine ⟨l,bs,T,a,m,cc,hl,hb,row_cell r1 r2 hv,t1,fun w1 ho => ?_⟩
 refine (tstep_any ro T gs gn gf gl cs cn cf cl l a m cc (fun i => bs.getD i false) c w1 (t2.of_only ho (fun b _ => by simp)) hm (fun i hi => ?_)).mono ?_
 ·obtain ⟨g,rfl,q⟩ := hcl i hi
  exact ⟨g,rfl,ho.cell q (by simp)⟩
 rintro e w2 ⟨g,rfl,hg,hr,ho2⟩
 have hoo := ho.trans ho2
 refine ⟨g,rfl,Nat.le_trans ho.size hg,free_at (hoo.heap r1 (by simp)),hoo,?_⟩
 refine hr.congr fun j hj => ?_
 rw [stepW_eq l bs c hb0 j hj,hbl]
theorem wat_ends {w : World} {W ga gt ca ct : Nat} {ro : List Nat} {vs : List Value} {lits : List M.B} {ats : List (List Bool)} {over : Bool} (h : WatAt w W ga gt ca ct ro vs lits ats over) {k g T : Nat} {l : M.B} {bs : List Bool} (hl : lits[k]? = some l) (hb : ats[k]? = some bs) (hv : vs[k]? = some (.slice (some ⟨g,0,none⟩) l.length l.length)) (hT : w.cell? ⟨gt,k,none⟩ = some (.pointer (some ⟨T,0,none⟩))) :
  w.cell? ⟨ga,k,none⟩ = some (.slice (some ⟨g,0,none⟩) l.length l.length) ∧ ∀ w1,Only [] w w1 → Calls Tryz.prog 111 #[.pointer (some ⟨T,0,none⟩),.slice (some ⟨g,0,none⟩) l.length l.length] w1 fun e w2 => e = .returned (.bool (bs.getD (l.length - 1) false)) ∧ w1 = w2 := by
 obtain ⟨T',gs,gn,gf,gl,cs,cn,cf,cl,t1,t2⟩ := h.tab k l hl
 obtain ⟨ks,r1,r2⟩ := h.row
 rw [hT] at t1
 cases t1
 refine ⟨row_cell r1 r2 hv,fun w1 ho => ?_⟩
 refine tends_any ro T gs gn gf gl cs cn cf cl l g l.length (fun i => bs.getD i false) w1 (t2.of_only ho (fun b _ => by simp)) (fun i hi => ?_)
 rcases h.at_ k l _ bs hl hv hb with ⟨e,_⟩ | ⟨g',e,_,_,h4⟩
 ·simp at e
 ·simp at e
  subst e
  exact ho.cell (h4.cell hi) (by simp)
theorem PutLoop.next {w wr w2 : World} {W ga gt ca ct : Nat} {ro0 ro : List Nat} {vs : List Value} {x : M.Watch} {c : UInt8} {k g : Nat} {ats' : List (List Bool)} {l : M.B} {bs : List Bool} (h : WatAt wr W ga gt ca ct ro vs x.lits ats' false) (hat : ∀ j,ats'[j]? = if j < k then (newAts x c)[j]? else x.ats[j]?) (ho : Only [W,ga] w wr) (hr : ∀ b,b ∈ ro → b ∈ ro0 ∨ w.heap.size ≤ b) (ho2 : Only [] wr w2) (hl : x.lits[k]? = some l) (hb : ats'[k]? = some bs) (hg : wr.heap.size ≤ g) (hrow : w2.rowIs g 4 l.length (fun j => .bool ((M.stepW l bs c).getD j false))) : (newAts x c)[k]? = some (M.stepW l bs c) ∧ (ats'.set k (M.stepW l bs c))[k]? = some (M.stepW l bs c) ∧ (vs.set k (.slice (some ⟨g,0,none⟩) l.length l.length))[k]? = some (.slice (some ⟨g,0,none⟩) l.length l.length) ∧ WatAt (w2.setCell ⟨ga,k,none⟩ (.slice (some ⟨g,0,none⟩) l.length l.length)) W ga gt ca ct (g :: ro) (vs.set k (.slice (some ⟨g,0,none⟩) l.length l.length)) x.lits (ats'.set k (M.stepW l bs c)) false ∧ PutLoop w W ga gt ca ct ro0 x c (k + 1) (w2.setCell ⟨ga,k,none⟩ (.slice (some ⟨g,0,none⟩) l.length l.length)) := by
 have hx : x.ats[k]? = some bs := by rw [hat,if_neg (Nat.lt_irrefl _)] at hb;exact hb
 have hn := newAts_get x c k l bs hl hx
 have hkl := (List.getElem?_eq_some_iff.1 hb).1
 have hup := h.upd ho2 hl hg (stepW_length l bs c) hrow
 refine ⟨hn,by rw [List.getElem?_set,if_pos rfl,if_pos hkl],by rw [List.getElem?_set,if_pos rfl,if_pos (by have := h.len;omega)],hup,g :: ro,_,ats'.set k (M.stepW l bs c),hup,fun j => ?_,(ho.trans (ho2.weaken (by simp))).trans ((only_set w2 ga k _).weaken (by simp)),fun b hb' => ?_⟩
 ·rw [List.getElem?_set]
  by_cases hj : k = j
  ·subst hj
   rw [if_pos rfl,if_pos hkl,if_pos (by omega),hn]
  ·rw [if_neg hj,hat]
   by_cases h1 : j < k
   ·rw [if_pos h1,if_pos (by omega)]
   ·rw [if_neg h1,if_neg (by omega)]
 ·rcases List.mem_cons.1 hb' with rfl | hb'
  ·exact .inr (Nat.le_trans ho.size hg)
  ·exact hr b hb'
theorem keepWA {wr w2 : World} {W ga : Nat} {v : Value} (ho : Only [] wr w2) (h : wr.cell? ⟨W,1,none⟩ = some v) : Only [ga] wr w2 ∧ w2.cell? ⟨W,1,none⟩ = some v := ⟨ho.weaken (by simp),ho.cell h (by simp)⟩
theorem keepWB {wr w2 : World} {W ga k : Nat} {v u : Value} (ho : Only [] wr w2) (h : wr.cell? ⟨W,1,none⟩ = some v) (hne : W ≠ ga) : Only [ga] wr (w2.setCell ⟨ga,k,none⟩ u) ∧ (w2.setCell ⟨ga,k,none⟩ u).cell? ⟨W,1,none⟩ = some v := ⟨(ho.weaken (by simp)).trans (only_set w2 ga k u),(only_set w2 ga k u).cell (ho.cell h (by simp)) (by simpa using hne)⟩
theorem PutLoop.best {aa : List (List Bool)} {k : Nat} {b : List Bool} (h : aa[k]? = some b) : bestI (aa.take (k + 1)) = if bestI (aa.take k) < 0 ∧ lastT b = true then (k : Int) else bestI (aa.take k) := by
 have hl := (List.getElem?_eq_some_iff.1 h).1
 rw [List.take_add_one,h]
 simp only [Option.toList_some]
 rw [bestI_snoc,List.length_take,Nat.min_eq_left (by omega)]
theorem wput_any (W ga gt ca ct : Nat) (ro : List Nat) (vs : List Value) (x : M.Watch) (c : UInt8) (w : World) (h : WatAt w W ga gt ca ct ro vs x.lits x.ats x.over) (hov : x.over = false) (hlp : ∀ l,l ∈ x.lits → 0 < l.length) :
  Calls Tryz.prog 95 #[.pointer (some ⟨W,0,none⟩),byteV c] w fun e w' => e = .returned (putV (x.put c).1) ∧ ∃ ro' vs',WatAt w' W ga gt ca ct ro' vs' (x.put c).2.lits (x.put c).2.ats (x.put c).2.over ∧ Only [W,ga] w w' ∧ (∀ b,b ∈ ro' → b ∈ ro ∨ w.heap.size ≤ b) := by
 obtain ⟨n,hn⟩ : ∃ n,n = x.lits.length := ⟨_,rfl⟩
 obtain ⟨sn,h1⟩ := h.str
 rw [hov] at h1
 rw [← hn] at h1
 have c0 : w.cell? ⟨W,0,none⟩ = some (.slice (some ⟨gt,0,none⟩) n ct) := cell_at h1 rfl
 have c2 : w.cell? ⟨W,2,none⟩ = some (.int .i64 sn) := cell_at h1 rfl
 have c3 : w.cell? ⟨W,3,none⟩ = some (.bool false) := cell_at h1 rfl
 have f2 : w.frozen? ⟨W,2,none⟩ = false := free_at h1
 have hn8 : n ≤ 8 := by rw [hn];exact h.len.2.2
 have hW := heap_lt h1
 have hs0 : ∀ v,(w.setCell ⟨W,2,none⟩ (.int .i64 v)).heap[W]? = some (.cells #[.slice (some ⟨gt,0,none⟩) n ct,.slice (some ⟨ga,0,none⟩) n ca,.int .i64 v,.bool false] 221 (0,0)) := fun v => hs_same h1 rfl
 have HH := LH (AI h (AI hn (AI h1 (AI hov (AI hlp hs0)))))
 clear h hn h1 hov hlp hs0
 go_enter Tryz.func95,Tryz.ntmps95
 go_wp2_with fail
 generalize hW1 : w.setCell ⟨W,2,none⟩ _ = w1
 have hP0 : PutLoop w W ga gt ca ct ro x c 0 w1 := by
  obtain ⟨h,hn,h1,hov,hlp,hs0⟩ := HH.out
  subst hW1
  refine ⟨ro,vs,x.ats,h.own (only_set w W 2 _) (by rw [← hn];exact hs0 _),fun j => by simp,(only_set w W 2 _).weaken (by simp),fun b hb => .inl hb⟩
 have HP := LH hP0
 clear hP0 hW1 c0 c2 c3 f2
 go_loopw [6,25] (fun s6 s25 wr => ∃ k : Nat,k ≤ n ∧ s25 = .int .i64 k ∧ s6 = .int .i64 (bestI ((newAts x c).take k)) ∧ PutLoop w W ga gt ca ct ro x c k wr) (fun _ s25 _ => n - (intOf s25).toNat)
 case atStart => exact ⟨0,Nat.zero_le _,rfl,rfl,HP.out⟩
 case round =>
  obtain ⟨k,hk,rfl,rfl,hloop⟩ := hrel
  by_cases hlt : k < n
  ·obtain ⟨ro',vs',ats',hw,hat,ho,hr⟩ := hloop
   have hkl : k < x.lits.length := by rw [← HH.out.2.1];exact hlt
   obtain ⟨l,bs,T,a,m,cc,hl,hb,q1,q2,hcall⟩ := wat_round hw c k hkl
   obtain ⟨sn',hs⟩ := hw.str
   have c1 : wr.cell? ⟨W,1,none⟩ = some (.slice (some ⟨ga,0,none⟩) n ca) := by rw [HH.out.2.1];exact cell_at hs rfl
   have i1 : (k : Int) < (n : Int) := by omega
   have i2 : (0 : Int) ≤ (k : Int) := by omega
   have hne : W ≠ ga := hw.sep.1
   have HC := LH hcall
   have HW := LH (AI hw (AI hat (AI ho hr)))
   have HL := LH (AI hl hb)
   clear hcall hw hat ho hr hl hb hs hkl
   go_wp2_with fail
   refine wp_region_held_drew (S := (fun w' => Only [ga] wr w' ∧ w'.cell? ⟨W,1,none⟩ = some (.slice (some ⟨ga,0,none⟩) n ca))) (by kernel_rfl) ⟨(Only.refl [ga] wr).drew,c1⟩ (fun hHeld => ?_)
   refine wJ 0 ?_
   try simp only [Act.put]
   refine wJ 1 ?_
   try simp only [Act.put]
   refine wJ 2 ?_
   try simp only [Act.put]
   refine wJ 3 ?_
   try simp only [Act.put]
   refine wJ 4 ?_
   try simp only [Act.put]
   refine wJ 5 ?_
   try simp only [Act.put]
   refine wJ 6 ?_
   try simp only [Act.put]
   refine wJ 7 ?_
   try simp only [Act.put]
   refine wJ 8 ?_
   try simp only [Act.put]
   refine wJ 9 ?_
   try simp only [Act.put]
   refine wJ 10 ?_
   try simp only [Act.put]
   refine wJ 11 ?_
   try simp only [Act.put]
   refine wJ 13 ?_
   try simp only [Act.put]
   refine wpAnyH_ready (rs := [12]) (by kernel_rfl) (by simp) ?_
   refine AllReadyH.cons (o := _) rfl (fun K hK => ?_) AllReadyH.nil
   go_simp
   refine hK.out _ _ hHeld (fun hHeld => ?_)
   clear hK K
   try simp only [Act.put]
   refine wpAnyH_ready (rs := [14]) (by kernel_rfl) (by simp) ?_
   refine AllReadyH.cons (o := _) rfl (fun K hK => ?_) AllReadyH.nil
   go_simp
   refine (HC.out _ ((Only.refl [] wr).drew)).mono ?_
   rintro e w2 ⟨g,rfl,hg,hfz,ho2,hrow⟩
   have q1' := ho2.cell q1 (by simp)
   refine hK.out _ _ (keepWA ho2 c1) (fun hHeld => ?_)
   clear hK K
   try simp only [Act.put]
   refine wJ 15 ?_
   try simp only [Act.put]
   refine wpAnyH_ready (rs := [16]) (by kernel_rfl) (by simp) ?_
   refine AllReadyH.cons (o := _) rfl (fun K hK => ?_) AllReadyH.nil
   go_simp
   refine hK.out _ _ (keepWB ho2 c1 hne) (fun hHeld => ?_)
   clear hK K
   try simp only [Act.put]
   refine wpAnyH_done (by kernel_rfl) ?_ _
   obtain ⟨hn,ha,hv,hup,hnext⟩ := PutLoop.next HW.out.1 HW.out.2.1 HW.out.2.2.1 HW.out.2.2.2 ho2 HL.out.1 HL.out.2 hg hrow
   have hgt : gt ≠ ga := fun e => hup.sep.2.2 (e ▸ hup.inr)
   have q3 := (only_set w2 ga k (.slice (some ⟨g,0,none⟩) l.length l.length)).cell (ho2.cell q2 (by simp)) (by simpa using hgt)
   obtain ⟨q4,hend⟩ := wat_ends hup HL.out.1 ha hv q3
   obtain ⟨sn2,hs2⟩ := hup.str
   have c1' : (w2.setCell ⟨ga,k,none⟩ (.slice (some ⟨g,0,none⟩) l.length l.length)).cell? ⟨W,1,none⟩ = some (.slice (some ⟨ga,0,none⟩) n ca) := by rw [HH.out.2.1];exact cell_at hs2 rfl
   have hbest := PutLoop.best hn
   have hlast : lastT (M.stepW l bs c) = (M.stepW l bs c).getD (l.length - 1) false := stepW_last l bs c
   generalize w2.setCell ⟨ga,k,none⟩ _ = w3 at *
   rw [← hlast] at hend
   have HE := LH hend
   have HN := LH hnext
   clear hend hnext hup hs2 q1 q2 q3 q1' hfz ho2 hrow hn ha hv hlast hHeld c1
   by_cases hb0 : bestI ((newAts x c).take k) < 0
   ·cases hlt' : lastT (M.stepW l bs c) with
    | true =>
     rw [if_pos ⟨hb0,hlt'⟩] at hbest
     rw [hlt'] at HE
     clear hlt'
     go_wp2_with (go_at_call 111;with_reducible refine (HE.out _ (Only.refl [] w3)).mono ?_;rintro e w4 ⟨rfl,rfl⟩)
     exact ⟨⟨k + 1,by omega,by go_num,by rw [hbest],HN.out⟩,by simp [intOf];omega⟩
    | false =>
     rw [if_neg (by simp [hlt'])] at hbest
     rw [hlt'] at HE
     clear hlt'
     go_wp2_with (go_at_call 111;with_reducible refine (HE.out _ (Only.refl [] w3)).mono ?_;rintro e w4 ⟨rfl,rfl⟩)
     exact ⟨⟨k + 1,by omega,by go_num,by rw [hbest],HN.out⟩,by simp [intOf];omega⟩
   ·rw [if_neg (by simp [hb0])] at hbest
    go_wp2_with fail
    exact ⟨⟨k + 1,by omega,by go_num,by rw [hbest],HN.out⟩,by simp [intOf];omega⟩
  ·obtain rfl : k = n := by omega
   obtain ⟨ro',vs',ats',hw,hat,ho,hr⟩ := hloop
   have htk : (newAts x c).take k = newAts x c := by
    rw [List.take_of_length_le]
    rw [newAts_length x c HH.out.1.len.2.1,← HH.out.2.1]
    exact Nat.le_refl _
   rw [htk]
   have hal : ats' = newAts x c := by
    refine List.ext_getElem? fun j => ?_
    rw [hat]
    by_cases hj : j < k
    ·rw [if_pos hj]
    ·have h1 := HH.out.1.len
     have h2 := HH.out.2.1
     rw [if_neg hj,List.getElem?_eq_none (by omega),List.getElem?_eq_none (by rw [newAts_length x c h1.2.1];omega)]
   subst hal
   have HW := LH (AI hw (AI ho hr))
   obtain ⟨sn',hs⟩ := hw.str
   have c3 : wr.cell? ⟨W,3,none⟩ = some (.bool false) := cell_at hs rfl
   have f3 : wr.frozen? ⟨W,3,none⟩ = false := free_at hs
   have hs3 : (wr.setCell ⟨W,3,none⟩ (.bool true)).heap[W]? = some (.cells #[.slice (some ⟨gt,0,none⟩) x.lits.length ct,.slice (some ⟨ga,0,none⟩) x.lits.length ca,.int .i64 sn',.bool true] 221 (0,0)) := hs_same hs rfl
   have HS := LH hs3
   clear hw ho hr hs hat htk hs3
   cases hf : (newAts x c).findIdx? lastT with
   | none =>
    have hbi : bestI (newAts x c) = -1 := by unfold bestI;rw [hf]
    rw [hbi]
    have hput := put_none x c HH.out.2.2.2.1 hf
    have HU := LH hput
    clear hput hf hbi
    go_wp2_with fail
    go_ret2
    rw [HU.out]
    refine ⟨rfl,ro',vs',?_,HW.out.2.1,HW.out.2.2⟩
    rw [HH.out.2.2.2.1]
    exact HW.out.1
   | some j =>
    have hbi : bestI (newAts x c) = (j : Int) := by unfold bestI;rw [hf]
    rw [hbi]
    have hput := put_some x c j HH.out.2.2.2.1 hf
    have HU := LH hput
    clear hput hf hbi
    go_wp2_with fail
    go_ret2
    rw [HU.out]
    refine ⟨rfl,ro',vs',HW.out.1.own (only_set _ W 3 _) HS.out,HW.out.2.1.trans ((only_set _ W 3 _).weaken (by simp)),HW.out.2.2⟩
end Go.Proofs.YtplaamfoeaaaiaaGreatDoor
namespace Go.Proofs.YtplaamfoeaaaiaaGreatDoor
open Go.RowKit
open Go.ChangeMaps (setBlock)
abbrev keyP (a b : Int) : Value := .agg #[.int .i64 a,.int .i64 b]
abbrev entP (i : Nat) : MapEntry := { key := keyP i (i + 1 : Nat),val := .bool true,born := i }
def pairsE (n : Nat) : Array MapEntry := ((List.range n).map entP).toArray
theorem u265 : Tryz.prog.underlying 265 = some (.map 275 4) := by kernel_rfl
theorem u275 : Tryz.prog.underlying 275 = some (.array 2 3) := by kernel_rfl
theorem eq275 (a b c d : Int) (w : World) : (Op.equalIn 10000 275 (keyP a b) (keyP c d)).run Tryz.prog w = .ok (a == c && b == d) w := by
 have u3 := Tryz.underlying3
 have a3 := Tryz.isAgg3
 have z3 := Tryz.sizeOf3
 rw [show (10000 : Nat) = 9999 + 1 from rfl,Op.equalIn]
 simp only [Sem.run_bind,run_underlying u275,Result.andThen_ok]
 simp only [Std.Legacy.Range.forIn_eq_forIn_range',Std.Legacy.Range.size,Nat.sub_zero,Nat.add_sub_cancel,Nat.div_one,List.range'_succ,List.range'_zero,List.forIn_cons,List.forIn_nil]
 go_simp
 by_cases h1 : a = c <;> by_cases h2 : b = d <;> simp [h1,h2]
theorem checkP (e : Bool) (a b : Int) (w : World) : (Instr.checkKey e 10000 275 (keyP a b)).run Tryz.prog w = .ok () w := by
 have h : ∀ (n : Nat) (k : Int) (w : World),(Instr.checkKey e (n + 1) 3 (.int .i64 k)).run Tryz.prog w = .ok () w := fun n k w => by
  rw [Instr.checkKey]
  simp [run_underlying Tryz.underlying3,Sem.run_bind,Result.andThen]
 have a3 := Tryz.isAgg3
 have z3 := Tryz.sizeOf3
 have h' := fun k w => h 9998 k w
 rw [show (10000 : Nat) = 9998 + 1 + 1 from rfl,Instr.checkKey]
 simp only [Sem.run_bind,run_underlying u275,Result.andThen_ok]
 simp only [Std.Legacy.Range.forIn_eq_forIn_range',Std.Legacy.Range.size,Nat.sub_zero,Nat.add_sub_cancel,Nat.div_one,List.range'_succ,List.range'_zero,List.forIn_cons,List.forIn_nil]
 go_simp
def isP (a b : Int) (i : Nat) : Bool := a == (i : Int) && b == ((i + 1 : Nat) : Int)
theorem askP (a b : Int) (is : List Nat) (j : Nat) (w : World) : (Instr.findAsking 275 (keyP a b) (is.map entP) j).run Tryz.prog w = .ok ((is.findIdx? (isP a b)).map fun x => (x + j,Value.bool true)) w := by
 induction is generalizing j with
 | nil => simp [Instr.findAsking]
 | cons i r ih =>
  simp only [List.map_cons,Instr.findAsking,Op.equal,Op.maxDepth,Sem.run_bind,eq275,Result.andThen]
  rw [List.findIdx?_cons]
  have e : (a == (i : Int) && b == ((i + 1 : Nat) : Int)) = isP a b i := rfl
  rw [e]
  cases h : isP a b i with
  | true => simp
  | false =>
   simp only [Bool.false_eq_true,if_false]
   rw [ih]
   simp [Option.map_map,Function.comp_def,Nat.add_assoc,Nat.add_comm 1 j]
theorem findP (a b : Int) (is : List Nat) (w : World) : (Instr.findKey 275 (keyP a b) (is.map entP)).run Tryz.prog w = .ok ((is.findIdx? (isP a b)).map fun x => (x,Value.bool true)) w := by
 cases is with
 | nil => simp [Instr.findKey,Instr.findNow,run_underlying u275,Result.andThen]
 | cons i r =>
  have h := askP a b (i :: r) 0 w
  simp only [Instr.findKey,Sem.run_bind,run_underlying u275,Result.andThen,List.map_cons,Instr.findNow,Instr.sameNow]
  simpa using h
theorem isP_any (a b n : Nat) : (List.range n).any (isP a b) = decide (a < n ∧ b = a + 1) := by
 rw [Bool.eq_iff_iff,List.any_eq_true]
 simp only [decide_eq_true_eq,List.mem_range,isP,Bool.and_eq_true,beq_iff_eq]
 constructor
 ·rintro ⟨x,hx,h1,h2⟩;omega
 ·rintro ⟨h1,h2⟩;exact ⟨a,h1,by omega,by omega⟩
theorem isP_isSome (a b n : Nat) : ((List.range n).findIdx? (isP a b)).isSome = decide (a < n ∧ b = a + 1) := by
 rw [List.findIdx?_isSome,isP_any]
theorem pairs_list (n : Nat) : (pairsE n).toList = (List.range n).map entP := by simp [pairsE]
theorem look_pair (w : World) (X n : Nat) (a b : Nat) (h : w.heap[X]? = some (.map (pairsE n) n)) : (Instr.lookup 265 (.map (some X)) (keyP a b) false).run Tryz.prog w = .ok (.bool (decide (a < n ∧ b = a + 1))) w := by
 have hz := Tryz.zeroValue4 w
 have hs := isP_isSome a b n
 simp only [Instr.lookup,Sem.run_bind,run_underlying u265,Result.andThen,MapKept.run_getObj_map h,Sem.run_pure,checkP,pairs_list,findP]
 rw [← hs]
 cases (List.range n).findIdx? (isP a b) with
 | none => simp [hz]
 | some x => simp
theorem upd_pair (w : World) (X n : Nat) (h : w.heap[X]? = some (.map (pairsE n) n)) : (Instr.mapUpdate 265 (.map (some X)) (keyP n (n + 1 : Nat)) (.bool true)).run Tryz.prog w = .ok () (setBlock w X (.map (pairsE (n + 1)) (n + 1))) := by
 have hs := isP_isSome n (n + 1) n
 have hn : (List.range n).findIdx? (isP n (n + 1 : Nat)) = none := by
  rw [← Option.isNone_iff_eq_none,← Option.not_isSome,hs];simp
 have hp : (pairsE n).push { key := keyP n (n + 1 : Nat),val := .bool true,born := n } = pairsE (n + 1) := by
  apply Array.ext'
  rw [Array.toList_push,pairs_list,pairs_list,List.range_succ,List.map_append]
  rfl
 simp only [Instr.mapUpdate,Sem.run_bind,run_underlying u265,Result.andThen,MapKept.run_getObj_map h,checkP,pairs_list,findP,hn,Option.map_none,MapKept.run_setObj_map _ h]
 rw [hp]
 rfl
theorem build275 (a b : Int) (w : World) : (Instr.build 275 #[(0,.int .i64 a),(1,.int .i64 b)]).run Tryz.prog w = .ok (keyP a b) w := run_build w 275 _ _ (by kernel_rfl)
abbrev Pairs (w : World) (X n : Nat) : Prop := w.heap[X]? = some (.map (pairsE n) n)
theorem map_old {w w' : World} {b : Nat} {o : Obj} (h : w.heap[b]? = some o) (ho : Only [] w w') : w'.heap[b]? = some o := ho.heap h (by simp)
theorem join_any (M X n b A B : Nat) (hnb : b = n + 1) (vs : Value) (ty : TypeId) (w : World) (hM : w.heap[M]? = some (.cells #[vs,.map (some X)] ty (0,0))) (hX : Pairs w X n) (hA : OneMap w A n) (hB : OneMap w B b) :
  Calls Tryz.prog 141 #[.pointer (some ⟨M,0,none⟩),.map (some A),.map (some B)] w fun e w' => e = .returned (.tuple #[]) ∧ Pairs w' X b ∧ Only [X] w w' := by
 have hb := fun w => build275 n b w
 have hMX : M ≠ X := by intro e;unfold Pairs at hX;rw [e,hX] at hM;cases hM
 have hAX : A ≠ X := by
  intro e;unfold OneMap at hA;rw [e,hX] at hA
  simp only [Option.some.injEq,Obj.map.injEq] at hA
  obtain ⟨h1,h2⟩ := hA
  rw [h2] at h1
  have := congrArg (fun a => (a[0]?).map (·.key)) h1
  simp [pairsE] at this
 have hBX : B ≠ X := by
  intro e;unfold OneMap at hB;rw [e,hX] at hB
  simp only [Option.some.injEq,Obj.map.injEq] at hB
  obtain ⟨h1,h2⟩ := hB
  rw [h2] at h1
  have := congrArg (fun a => (a[0]?).map (·.key)) h1
  simp [pairsE] at this
 obtain ⟨r,hr⟩ : ∃ r,r = w.heap.size := ⟨_,rfl⟩
 obtain ⟨w1,hw1⟩ : ∃ w1,w1 = w.alloc (.mapIter (some A) 1 #[] 1) := ⟨_,rfl⟩
 have hr1 := range_one w A n hA
 rw [← hw1,← hr] at hr1
 have o1 : Only [] w w1 := by rw [hw1];exact (Only.refl [] w).alloc _
 have h1r : w1.heap[r]? = some (.mapIter (some A) 1 #[] 1) := by rw [hw1,hr];exact heap_alloc_new w _
 have n1 := fun ty => next_one w1 r A n ty h1r (map_old hA o1)
 obtain ⟨w2,hw2⟩ : ∃ w2,w2 = setBlock w1 r (.mapIter (some A) 1 #[0] 1) := ⟨_,rfl⟩
 rw [← hw2] at n1
 have o2 : Only [r] w1 w2 := by rw [hw2];exact only_setBlock _ _ _
 have h2r : w2.heap[r]? = some (.mapIter (some A) 1 #[0] 1) := by rw [hw2];exact heap_setBlock _ _ _ (heap_lt h1r)
 have lA := heap_lt hA
 have lB := heap_lt hB
 have lX := heap_lt hX
 have lM := heap_lt hM
 have hA2 : OneMap w2 A n := o2.heap (map_old hA o1) (by simp;omega)
 have hB2 : OneMap w2 B b := o2.heap (map_old hB o1) (by simp;omega)
 have hX2 : Pairs w2 X n := o2.heap (map_old hX o1) (by simp;omega)
 have hM2 := o2.heap (map_old hM o1) (by simp;omega)
 have e2 := entry_one w2 r A n h2r hA2
 have hr2 := range_one w2 B b hB2
 obtain ⟨w3,hw3⟩ : ∃ w3,w3 = w2.alloc (.mapIter (some B) 1 #[] 1) := ⟨_,rfl⟩
 obtain ⟨q,hq⟩ : ∃ q,q = w2.heap.size := ⟨_,rfl⟩
 rw [← hw3,← hq] at hr2
 have o3 : Only [] w2 w3 := by rw [hw3];exact (Only.refl [] w2).alloc _
 have h3q : w3.heap[q]? = some (.mapIter (some B) 1 #[] 1) := by rw [hw3,hq];exact heap_alloc_new w2 _
 have n3 := fun ty => next_one w3 q B b ty h3q (map_old hB2 o3)
 obtain ⟨w4,hw4⟩ : ∃ w4,w4 = setBlock w3 q (.mapIter (some B) 1 #[0] 1) := ⟨_,rfl⟩
 rw [← hw4] at n3
 have o4 : Only [q] w3 w4 := by rw [hw4];exact only_setBlock _ _ _
 have h4q : w4.heap[q]? = some (.mapIter (some B) 1 #[0] 1) := by rw [hw4];exact heap_setBlock _ _ _ (heap_lt h3q)
 have l2r := heap_lt h2r
 have s2 := o2.size
 have s1 := o1.size
 have hB4 : OneMap w4 B b := o4.heap (map_old hB2 o3) (by simp;omega)
 have hA4 : OneMap w4 A n := o4.heap (map_old hA2 o3) (by simp;omega)
 have hX4 : Pairs w4 X n := o4.heap (map_old hX2 o3) (by simp;omega)
 have hM4 := o4.heap (map_old hM2 o3) (by simp;omega)
 have h4r := o4.heap (map_old h2r o3) (by simp;omega)
 have e4 := entry_one w4 q B b h4q hB4
 have cM : w4.cell? ⟨M,1,none⟩ = some (.map (some X)) := cell_at hM4 rfl
 have u4 := upd_pair w4 X n hX4
 rw [← hnb] at u4
 obtain ⟨w5,hw5⟩ : ∃ w5,w5 = setBlock w4 X (.map (pairsE b) b) := ⟨_,rfl⟩
 rw [← hw5] at u4
 have o5 : Only [X] w4 w5 := by rw [hw5];exact only_setBlock _ _ _
 have h5X : Pairs w5 X b := by unfold Pairs;rw [hw5];exact heap_setBlock _ _ _ (heap_lt hX4)
 have n5 := fun ty => next_over w5 q B b ty (o5.heap h4q (by simp;omega)) (o5.heap hB4 (by simpa using hBX))
 have n5' := fun ty => next_over w5 r A n ty (o5.heap h4r (by simp;omega)) (o5.heap hA4 (by simpa using hAX))
 have hfin : Only [X] w w5 := by
  refine ((((o1.fresh' o2 ?_).trans o3).fresh' o4 ?_).weaken (by simp)).trans o5
  ·intro b hb;simp at hb;omega
  ·intro b hb;simp at hb;omega
 have HF := LH (AI hfin h5X)
 clear hnb hw1 hw2 hw3 hw4 hw5 hr hq o1 o2 o3 o4 o5 h1r h2r h3q h4q h4r hA2 hB2 hX2 hM2 hA4 hB4 hX4 hM4 h5X hfin hAX hBX hMX hA hB hX hM lA lB lX lM l2r s1 s2
 have H1 := LH (AI n1 (AI e2 hr2))
 have H2 := LH (AI n3 (AI e4 (AI cM u4)))
 have H3 := LH (AI n5 n5')
 clear n1 e2 hr2 n3 e4 cM u4 n5 n5'
 go_enter Tryz.func141,Tryz.ntmps141
 go_wp2_with fail
 clear hr1
 obtain ⟨n1,e2,hr2⟩ := H1.out
 refine wp_loop_rounds 2 ?_
 show Code.wp _ _ (Exit.then (Code.rounds _ _ _ 1) _) _ _
 go_wp2_with fail
 clear n1 e2 hr2
 obtain ⟨n3,e4,cM,u4⟩ := H2.out
 refine wp_loop_rounds 2 ?_
 show Code.wp _ _ (Exit.then (Code.rounds _ _ _ 1) _) _ _
 go_wp2_with fail
 clear n3 e4 cM u4
 obtain ⟨n5,n5'⟩ := H3.out
 show Code.wp _ _ (Exit.then (Code.rounds _ _ _ 0) _) _ _
 go_wp2_with fail
 show Code.wp _ _ (Exit.then (Code.rounds _ _ _ 0) _) _ _
 go_wp2_with fail
 go_end0
 exact ⟨rfl,HF.out.2,HF.out.1⟩
end Go.Proofs.YtplaamfoeaaaiaaGreatDoor
