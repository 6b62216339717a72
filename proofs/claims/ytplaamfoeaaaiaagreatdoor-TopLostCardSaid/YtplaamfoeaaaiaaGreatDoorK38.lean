/- A part of the proofs of the laws of lifelinetop (TopNever, TopLost, TopRoom): contracts of functions that these laws reach. No condition of its own. -/
import Derived.Test.YtplaamfoeaaaiaaGreatDoorK02
import Derived.Test.YtplaamfoeaaaiaaGreatDoorK37
set_option maxRecDepth 100000
set_option maxHeartbeats 8000000
set_option linter.unusedVariables false
namespace Go.Proofs.YtplaamfoeaaaiaaGreatDoor
open Go.RowKit
theorem size34 : (Tryz.prog.info? 34).map (·.size) = some 5 := by kernel_rfl
theorem only_new {w w1 w2 : World} {ks : List Nat} (h : Only [] w w1) (ho : Only ks w1 w2) (hk : ∀ k,k ∈ ks → w.heap.size ≤ k) : Only [] w w2 :=
 ⟨ho.os.trans h.os,ho.tape.trans h.tape,ho.output.trans h.output,Nat.le_trans h.size ho.size,fun b hb _ => (ho.block b (Nat.lt_of_lt_of_le hb h.size) (fun hm => by have := hk b hm;omega)).trans (h.block b hb (by simp))⟩
theorem hfit_is (c : M.Cfg) (tries room : Nat) (w : World) (h1 : 1 ≤ tries) (h2 : tries ≤ 9) (h3 : 1 ≤ room) (h4 : room ≤ 4096) :
  Calls Tryz.prog 39 #[.agg #[.int .i64 c.tries,.int .i64 c.wait,.int .i64 tries,.int .i64 room,.slice none 0 0]] w fun e w' => ∃ D D0,e = .returned (.agg #[.int .i64 c.tries,.int .i64 c.wait,.int .i64 tries,.int .i64 room,.slice (some ⟨D,0,none⟩) 5 5]) ∧ DlgAt w' D D0 ∧ w.heap.size ≤ D ∧ w.heap.size ≤ D0 ∧ Only [] w w' := by
 go_enter Tryz.func39,Tryz.ntmps39
 go_upto_region 4 with fail
 have e1 : max 1 (min (tries : Int) 9) = tries := by omega
 have e2 : max 1 (min (room : Int) 4096) = room := by omega
 rw [e1,e2]
 clear e1 e2
 obtain ⟨A,hA⟩ : ∃ A,A = w.heap.size := ⟨_,rfl⟩
 obtain ⟨B,hB⟩ : ∃ B,B = A + 1 := ⟨_,rfl⟩
 obtain ⟨w1,hw1⟩ : ∃ w1,w1 = (w.alloc (.cells #[.int .i64 c.tries,.int .i64 c.wait,.int .i64 tries,.int .i64 room,.slice none 0 0] 34)).alloc (.cells #[.int .i64 0,.int .i64 0,.int .i64 0,.int .i64 0,.slice none 0 0] 34) := ⟨_,rfl⟩
 have hA1 : w1.heap[A]? = some (.cells #[.int .i64 c.tries,.int .i64 c.wait,.int .i64 tries,.int .i64 room,.slice none 0 0] 34 (0,0)) := by rw [hw1,hA];exact new0 w _ _
 have hB1 : w1.heap[B]? = some (.cells #[.int .i64 0,.int .i64 0,.int .i64 0,.int .i64 0,.slice none 0 0] 34 (0,0)) := by rw [hw1,hB,hA];exact new1 w _ _
 have o1 : Only [] w w1 := by rw [hw1];exact ((Only.refl [] w).alloc _).alloc _
 rw [← hA,← hw1,← hB]
 have H1 := LH (AI hA1 (AI hB1 (AI o1 (AI hA hB))))
 have hAB : A ≠ B := by omega
 have hA0 : w.heap.size ≤ A := by omega
 clear hA1 hB1 o1 hw1 hA hB
 go_upto_region 5 with (go_at_call 63;go_loud (refine (wake_any w1).mono ?_;rintro e w2 ⟨D,D0,rfl,hd,hD,hD0,o2⟩;have hA2 := o2.heap H1.out.1 (by simp);have a4 : w2.cell? ⟨A,4,none⟩ = some (.slice none 0 0) := cell_at hA2 rfl;have f4 : w2.frozen? ⟨A,4,none⟩ = false := free_at hA2;have H2 := LH (AI hA2 (AI hd (AI hD (AI hD0 o2))));clear hA2 hd hD hD0 o2))
 obtain ⟨w3,hw3⟩ : ∃ w3,w3 = w2.setCell ⟨A,4,none⟩ (.slice (some ⟨D,0,none⟩) 5 5) := ⟨_,rfl⟩
 rw [← hw3]
 have o3 : Only [A] w2 w3 := by rw [hw3];exact only_set w2 A 4 _
 have hA3 : w3.heap[A]? = some (.cells #[.int .i64 c.tries,.int .i64 c.wait,.int .i64 tries,.int .i64 room,.slice (some ⟨D,0,none⟩) 5 5] 34 (0,0)) := by rw [hw3];exact hs_same H2.out.1 rfl
 have hB3 := o3.heap (H2.out.2.2.2.2.heap H1.out.2.1 (by simp)) (by simpa using Ne.symm hAB)
 have b0 : w3.cell? ⟨A,0,none⟩ = some (.int .i64 c.tries) := cell_at hA3 rfl
 have b1 : w3.cell? ⟨A,1,none⟩ = some (.int .i64 c.wait) := cell_at hA3 rfl
 have b2 : w3.cell? ⟨A,2,none⟩ = some (.int .i64 tries) := cell_at hA3 rfl
 have b3 : w3.cell? ⟨A,3,none⟩ = some (.int .i64 room) := cell_at hA3 rfl
 have b4 : w3.cell? ⟨A,4,none⟩ = some (.slice (some ⟨D,0,none⟩) 5 5) := cell_at hA3 rfl
 have d0 : w3.cell? ⟨B,0,none⟩ = some (.int .i64 0) := cell_at hB3 rfl
 have d1 : w3.cell? ⟨B,1,none⟩ = some (.int .i64 0) := cell_at hB3 rfl
 have d2 : w3.cell? ⟨B,2,none⟩ = some (.int .i64 0) := cell_at hB3 rfl
 have d3 : w3.cell? ⟨B,3,none⟩ = some (.int .i64 0) := cell_at hB3 rfl
 have d4 : w3.cell? ⟨B,4,none⟩ = some (.slice none 0 0) := cell_at hB3 rfl
 have g0 : w3.frozen? ⟨B,0,none⟩ = false := free_at hB3
 have g1 : w3.frozen? ⟨B,1,none⟩ = false := free_at hB3
 have g2 : w3.frozen? ⟨B,2,none⟩ = false := free_at hB3
 have g3 : w3.frozen? ⟨B,3,none⟩ = false := free_at hB3
 have g4 : w3.frozen? ⟨B,4,none⟩ = false := free_at hB3
 have H3 := LH (AI hB3 o3)
 clear hw3 o3 hA3 hB3 a4 f4
 go_wp2_with fail
 have hf := hs_same (i := 4) (v := .slice (some ⟨D,0,none⟩) 5 5) (hs_same (i := 3) (v := .int .i64 room) (hs_same (i := 2) (v := .int .i64 tries) (hs_same (i := 1) (v := .int .i64 c.wait) (hs_same (i := 0) (v := .int .i64 c.tries) H3.out.1 rfl) rfl) rfl) rfl) rfl
 refine bodyPost_ret (results_cell_row (p := 2) (ty := 34) (cs := #[.int .i64 c.tries,.int .i64 c.wait,.int .i64 tries,.int .i64 room,.slice (some ⟨D,0,none⟩) 5 5]) rfl _ _ B 34 (fr := (0,0)) _ rfl hf Tryz.underlying34 rfl size34) rfl ?_
 obtain ⟨h1,h2,h3,h4,h5⟩ := H2.out
 have hs1 := H1.out.2.2.1.size
 have hAB2 : A < w1.heap.size ∧ B < w1.heap.size := ⟨heap_lt H1.out.1,heap_lt H1.out.2.1⟩
 have oB := (show Only [A,B] w2 w3 from H3.out.2.weaken (by simp))
 have oB := oB.trans ((only_set _ B 0 (.int .i64 c.tries)).weaken (by simp))
 have oB := oB.trans ((only_set _ B 1 (.int .i64 c.wait)).weaken (by simp))
 have oB := oB.trans ((only_set _ B 2 (.int .i64 tries)).weaken (by simp))
 have oB := oB.trans ((only_set _ B 3 (.int .i64 room)).weaken (by simp))
 have oB := oB.trans ((only_set _ B 4 (.slice (some ⟨D,0,none⟩) 5 5)).weaken (by simp))
 have hBs : B = A + 1 := H1.out.2.2.2.2
 refine ⟨D,D0,rfl,h2.of_only oB (fun b hb => ?_),by omega,by omega,?_⟩
 ·simp only [List.mem_cons,List.not_mem_nil,or_false] at hb ⊢
  omega
 ·exact only_new (H1.out.2.2.1.trans h5) oB (fun k hk => by simp at hk;omega)
structure RE where
 name : ByteArray
 addr : Int
 size : Int
 print : Int
 way : Int
def esCells : List RE → List Value
 | [] => []
 | e :: r => .string e.name :: .int .i64 e.addr :: .int .i64 e.size :: .int .u32 e.print :: .int .i64 e.way :: esCells r
theorem esCells_length : ∀ es : List RE,(esCells es).length = es.length * 5
 | [] => rfl
 | e :: r => by
  simp only [esCells,List.length_cons,esCells_length r];omega
theorem esCells_get : ∀ (es : List RE) (k : Nat) (e : RE),es[k]? = some e → (esCells es)[k * 5]? = some (.string e.name) ∧ (esCells es)[k * 5 + 1]? = some (.int .i64 e.addr) ∧ (esCells es)[k * 5 + 2]? = some (.int .i64 e.size) ∧ (esCells es)[k * 5 + 3]? = some (.int .u32 e.print) ∧ (esCells es)[k * 5 + 4]? = some (.int .i64 e.way)
 | [],k,e,h => by simp at h
 | x :: r,0,e,h => by
  simp at h
  subst h
  exact ⟨rfl,rfl,rfl,rfl,rfl⟩
 | x :: r,k + 1,e,h => by
  have := esCells_get r k e (by simpa using h)
  have e1 : (k + 1) * 5 = k * 5 + 5 := by omega
  rw [e1]
  exact this
theorem esCells_one : ∀ (es : List RE),∀ u ∈ esCells es,u.oneCell' = true
 | [],u,h => by simp [esCells] at h
 | e :: r,u,h => by
  simp only [esCells,List.mem_cons] at h
  rcases h with rfl | rfl | rfl | rfl | rfl | h
  ·rfl
  ·rfl
  ·rfl
  ·rfl
  ·rfl
  ·exact esCells_one r u h
structure EsRaw (w : World) (a : Option Addr) (es : List RE) : Prop where
 nil : a = none → es = []
 cell : ∀ ad,a = some ad → ∀ j u,(esCells es)[j]? = some u → w.cell? (ad.add j) = some u
theorem EsRaw.of_only {w w' : World} {a : Option Addr} {es : List RE} {ks : List Nat} (h : EsRaw w a es) (ho : Only ks w w') (hs : ∀ ad,a = some ad → es ≠ [] → ad.block ∉ ks) : EsRaw w' a es := by
 refine ⟨h.nil,fun ad e j u hj => ho.cell (h.cell ad e j u hj) ?_⟩
 rw [add_block]
 exact hs ad e (fun hn => by rw [hn] at hj;simp [esCells] at hj)
def SlcR (w : World) (ro : List Nat) (v : Value) (bs : List UInt8) : Prop :=
 ∃ a c,v = .slice a bs.length c ∧ Bytes w a bs ∧ bs.length ≤ c ∧ c ≤ maxLen ∧ (a = none → c = 0) ∧ (bs = [] ∨ ∀ x,a = some x → x.block ∈ ro)
theorem SlcR.of_only {w w' : World} {ro ks : List Nat} {v : Value} {bs : List UInt8} (h : SlcR w ro v bs) (ho : Only ks w w') (hs : Sep ro ks) : SlcR w' ro v bs := by
 obtain ⟨a,c,hv,hb,h1,h2,h3,h4⟩ := h
 exact ⟨a,c,hv,hb.of_only ho (h4.imp id (fun h ad e => hs _ (h ad e))),h1,h2,h3,h4⟩
theorem Slc.raw {w : World} {ro : List Nat} {v : Value} {bs : List UInt8} (h : Slc w ro v bs) : SlcR w ro v bs := by
 obtain ⟨a,c,hv,hb,h1,h2,h3,h4⟩ := h
 exact ⟨a,c,hv,hb,h1,h2,h3,.inr h4⟩
structure ImRaw (w : World) (ro : List Nat) (a : Option Addr) (ims : List M.B) : Prop where
 nil : a = none → ims = []
 cell : ∀ ad,a = some ad → ∀ k im,ims[k]? = some im → ∃ u,w.cell? (ad.add k) = some u ∧ SlcR w ro u im
 inr : ∀ ad,a = some ad → ims ≠ [] → ad.block ∈ ro
theorem ImRaw.of_only {w w' : World} {ro ks : List Nat} {a : Option Addr} {ims : List M.B} (h : ImRaw w ro a ims) (ho : Only ks w w') (hs : Sep ro ks) : ImRaw w' ro a ims := by
 refine ⟨h.nil,fun ad e k im hk => ?_,h.inr⟩
 obtain ⟨u,hc,hu⟩ := h.cell ad e k im hk
 refine ⟨u,ho.cell hc ?_,hu.of_only ho hs⟩
 rw [add_block]
 exact hs _ (h.inr ad e (fun hn => by rw [hn] at hk;simp at hk))
def reZ : Value := .agg #[.string ⟨#[]⟩,.int .i64 0,.int .i64 0,.int .u32 0,.int .i64 0]
theorem info39 : (Tryz.prog.info? 39).map (fun i => (i.zero,i.size,i.bytes)) = some (some reZ,5,48) := by kernel_rfl
def RE.toM (e : RE) : M.Entry := ⟨e.name.data.toList,e.addr.toNat,e.size.toNat,e.print.toNat,e.way.toNat⟩
def RE.Pos (e : RE) : Prop := 0 ≤ e.addr ∧ 0 ≤ e.size ∧ 0 ≤ e.print ∧ 0 ≤ e.way
theorem esAt_of_row {w : World} {base g n c : Nat} {es : List RE} (h : w.ownsRow base 39 5 (.slice (some ⟨g,0,none⟩) n c) n (esCells es)) (hn : es.length = n) (hp : ∀ e,e ∈ es → e.Pos) : EsAt w g (es.map RE.toM) := by
 intro k e hk
 rw [List.getElem?_map] at hk
 cases hr : es[k]? with
 | none => rw [hr] at hk;simp at hk
 | some r =>
  rw [hr] at hk
  simp only [Option.map_some,Option.some.injEq] at hk
  subst hk
  obtain ⟨c0,c1,c2,c3,c4⟩ := esCells_get es k r hr
  have hkl := (List.getElem?_eq_some_iff.1 hr).1
  obtain ⟨p0,p1,p2,p3⟩ := hp r (List.mem_of_getElem? hr)
  have e1 : ((r.addr.toNat : Nat) : Int) = r.addr := by omega
  have e2 : ((r.size.toNat : Nat) : Int) = r.size := by omega
  have e3 : ((r.print.toNat : Nat) : Int) = r.print := by omega
  have e4 : ((r.way.toNat : Nat) : Int) = r.way := by omega
  refine ⟨(h.cellAt (k * 5) (by omega)).trans ?_,(h.cellAt (k * 5 + 1) (by omega)).trans ?_,(h.cellAt (k * 5 + 2) (by omega)).trans ?_,(h.cellAt (k * 5 + 3) (by omega)).trans ?_,(h.cellAt (k * 5 + 4) (by omega)).trans ?_⟩
  ·exact c0
  ·show _ = some (Value.int .i64 ((r.addr.toNat : Nat) : Int));rw [e1];exact c1
  ·show _ = some (Value.int .i64 ((r.size.toNat : Nat) : Int));rw [e2];exact c2
  ·show _ = some (Value.int .u32 ((r.print.toNat : Nat) : Int));rw [e3];exact c3
  ·show _ = some (Value.int .i64 ((r.way.toNat : Nat) : Int));rw [e4];exact c4
theorem run_appG {P : Program} (w : World) (t ty : TypeId) (base : Nat) (e : TypeId) (i : TypeInfo) (z : Value) (size bytes : Nat) (ht : P.underlying t = some (.slice e)) (hi : P.info? e = some i) (hz : i.zero = some z) (hsize : i.size = size) (hby : i.bytes = bytes) (hzs : z.cells.size = size) (hsz : 0 < size) (v : Value) (n : Nat) (xs : List Value) (hown : w.ownsRow base e size v n xs) (a : Option Addr) (m c : Nat) (news : List Value) (hl : news.length = m * size) (hnil : a = none → c = 0 ∧ m = 0) (hnews : ∀ ad,a = some ad → ∀ j u,news[j]? = some u → w.cell? (ad.add j) = some u) (h1 : ∀ u ∈ news,u.oneCell' = true) (h63 : n + m ≤ maxLen) (hbytes : (n + m) * bytes ≤ 140737488355328) (hbase : base ≤ w.heap.size) :
  ∃ a' c' w',(Builtin.append_ #[t,t] ty #[v,.slice a m c]).run P w = .ok (.slice a' (n + m) c') w' ∧ w'.ownsRow base e size (.slice a' (n + m) c') (n + m) (xs ++ news) ∧ w.grownBy w' v.ownBlock ∧ (∀ g',(Value.slice a' (n + m) c').ownBlock = some g' → v.ownBlock = some g' ∨ w.heap.size ≤ g') := by
 cases a with
 | none =>
  obtain ⟨rfl,rfl⟩ := hnil rfl
  have hn0 : news = [] := List.eq_nil_of_length_eq_zero (by simpa using hl)
  subst hn0
  have hr := run_append_owned_none (P := P) (w := w) base t ty e i size ht hi v n xs hown
  obtain ⟨a0,c0,rfl⟩ := own_slice hown
  rw [Nat.add_zero,List.append_nil]
  exact ⟨a0,c0,w,hr,hown,World.grownBy.refl w _,fun g' h => .inl h⟩
 | some ad =>
  obtain ⟨v',w',hr,h2,h3,_,h5⟩ := run_append_own_at (P := P) w base t ty e i z size bytes ht hi hz hsize hby hzs hsz v n xs hown ad m c news hl (hnews ad rfl) h1 h63 hbytes hbase
  obtain ⟨a0,c0,rfl⟩ := own_slice h2
  refine ⟨a0,c0,w',hr,h2,h3,fun g' h => ?_⟩
  rcases h5 with h5 | h5
  ·exact .inl (by rw [← h5];exact h)
  ·rw [h5] at h
   right
   have : w.heap.size = g' := by simpa using h
   omega
theorem wp_appG {P : Program} {w : World} {o : Oper} {a : Act} {K : Act → World → Prop} {Q : Exit → Act → World → Prop} (s x : Operand) (t : TypeId) (ho : o.op = .call { callee := .builtin .append,args := #[s,x],argTypes := #[t,t] }) (base : Nat) (e : TypeId) (i : TypeInfo) (z : Value) (size bytes : Nat) (ht : P.underlying t = some (.slice e)) (hi : P.info? e = some i) (hz : i.zero = some z) (hsize : i.size = size) (hby : i.bytes = bytes) (hzs : z.cells.size = size) (hsz : 0 < size) (v : Value) (n : Nat) (xs : List Value) (hs : a.eval s = v) (hown : w.ownsRow base e size v n xs) (ad : Option Addr) (m c : Nat) (hx : a.eval x = .slice ad m c) (news : List Value) (hl : news.length = m * size) (hnil : ad = none → c = 0 ∧ m = 0) (hnews : ∀ d,ad = some d → ∀ j u,news[j]? = some u → w.cell? (d.add j) = some u) (h1 : ∀ u ∈ news,u.oneCell' = true) (h63 : n + m ≤ maxLen) (hbytes : (n + m) * bytes ≤ 140737488355328) (hbase : base ≤ w.heap.size) (h : ∀ a' c' w',w'.ownsRow base e size (.slice a' (n + m) c') (n + m) (xs ++ news) → w.grownBy w' v.ownBlock → (∀ g',(Value.slice a' (n + m) c').ownBlock = some g' → v.ownBlock = some g' ∨ w.heap.size ≤ g') → K (a.put o.dst (.slice a' (n + m) c')) w') : o.wp P a w K Q := by
 obtain ⟨a',c',w',hr,h2,h3,h4⟩ := run_appG (P := P) w t o.type base e i z size bytes ht hi hz hsize hby hzs hsz v n xs hown ad m c news hl hnil hnews h1 h63 hbytes hbase
 unfold Oper.wp execOp
 simp only [ho,resolve,invoke,builtin,Sem.run_bind,Sem.run_pure,Result.andThen_ok,List.map_toArray,List.map_cons,List.map_nil,hs,hx,hr]
 exact h a' c' w' h2 h3 h4
theorem wpList_appG {P : Program} (w : World) {ops : Array Oper} {rest : List Oper} {o : Oper} {a : Act} {Q : Exit → Act → World → Prop} (hgd : o.guard = none) (s x : Operand) (t : TypeId) (ho : o.op = .call { callee := .builtin .append,args := #[s,x],argTypes := #[t,t] }) (base : Nat) (e : TypeId) (i : TypeInfo) (z : Value) (size bytes : Nat) (ht : P.underlying t = some (.slice e)) (hi : P.info? e = some i) (hz : i.zero = some z) (hsize : i.size = size) (hby : i.bytes = bytes) (hzs : z.cells.size = size) (hsz : 0 < size) (v : Value) (n : Nat) (xs : List Value) (hs : a.eval s = v) (hown : w.ownsRow base e size v n xs) (ad : Option Addr) (m c : Nat) (hx : a.eval x = .slice ad m c) (news : List Value) (hl : news.length = m * size) (hnil : ad = none → c = 0 ∧ m = 0) (hnews : ∀ d,ad = some d → ∀ j u,news[j]? = some u → w.cell? (d.add j) = some u) (h1 : ∀ u ∈ news,u.oneCell' = true) (h63 : n + m ≤ maxLen) (hbytes : (n + m) * bytes ≤ 140737488355328) (hbase : base ≤ w.heap.size) (h : ∀ a' c' w',w'.ownsRow base e size (.slice a' (n + m) c') (n + m) (xs ++ news) → w.grownBy w' v.ownBlock → (∀ g',(Value.slice a' (n + m) c').ownBlock = some g' → v.ownBlock = some g' ∨ w.heap.size ≤ g') → wpList P ops Q rest (a.put o.dst (.slice a' (n + m) c')) w') : wpList P ops Q (o :: rest) a w :=
 wpList_plain hgd fun _ hK => wp_appG s x t ho base e i z size bytes ht hi hz hsize hby hzs hsz v n xs hs hown ad m c hx news hl hnil hnews h1 h63 hbytes hbase fun a' c' w' h2 h3 h4 => hK _ _ (h a' c' w' h2 h3 h4)
theorem step_appG {P : Program} {w : World} {ops : Array Oper} {o : Oper} {a : Act} {K : Act → World → Prop} {Q : Exit → Act → World → Prop} {E : Prop} (hgd : o.guard = none) (s x : Operand) (t : TypeId) (ho : o.op = .call { callee := .builtin .append,args := #[s,x],argTypes := #[t,t] }) (base : Nat) (e : TypeId) (i : TypeInfo) (z : Value) (size bytes : Nat) (ht : P.underlying t = some (.slice e)) (hi : P.info? e = some i) (hz : i.zero = some z) (hsize : i.size = size) (hby : i.bytes = bytes) (hzs : z.cells.size = size) (hsz : 0 < size) (v : Value) (n : Nat) (xs : List Value) (hs : a.eval s = v) (hown : w.ownsRow base e size v n xs) (ad : Option Addr) (m c : Nat) (hx : a.eval x = .slice ad m c) (news : List Value) (hl : news.length = m * size) (hnil : ad = none → c = 0 ∧ m = 0) (hnews : ∀ d,ad = some d → ∀ j u,news[j]? = some u → w.cell? (d.add j) = some u) (h1 : ∀ u ∈ news,u.oneCell' = true) (h63 : n + m ≤ maxLen) (hbytes : (n + m) * bytes ≤ 140737488355328) (hbase : base ≤ w.heap.size) (h : ∀ a' c' w',w'.ownsRow base e size (.slice a' (n + m) c') (n + m) (xs ++ news) → w.grownBy w' v.ownBlock → (∀ g',(Value.slice a' (n + m) c').ownBlock = some g' → v.ownBlock = some g' ∨ w.heap.size ≤ g') → K (a.put o.dst (.slice a' (n + m) c')) w') :
  if Region.wanted o (yielded ops a.tmps) = true then Oper.wp P o a w K Q else E := by
 have hw : Region.wanted o (yielded ops a.tmps) = true := by simp [Region.wanted,hgd]
 rw [if_pos hw]
 exact wp_appG s x t ho base e i z size bytes ht hi hz hsize hby hzs hsz v n xs hs hown ad m c hx news hl hnil hnews h1 h63 hbytes hbase h
def hostMk (c : M.Cfg) (tries room D : Nat) (es im : Value) (S Dm : Nat) : Array Value :=
 hostA c.tries c.wait tries room (.slice (some ⟨D,0,none⟩) 5 5) es im 0 0 0 (.pointer none) .nilIface (.pointer none) 0 (.pointer (some ⟨S,0,none⟩)) (.pointer (some ⟨Dm,0,none⟩)) (.slice none 0 0) (.slice none 0 0) (.complex .f64 0 0) .nilIface
def MakeLoop (w6 : World) (H : Nat) (c : M.Cfg) (tries room D : Nat) (es : Value) (S Dm : Nat) (ims : List M.B) (k : Nat) (wr : World) : Prop :=
 ∃ vi ro,wr.heap[H]? = some (.cells (hostMk c tries room D es vi S Dm) 96 (0,0)) ∧ Parts wr (H + 1) ro vi (ims.take k) ∧ Only [H] w6 wr
def host0 (c : M.Cfg) (tries room : Nat) (es : List M.Entry) (ims : List M.B) : M.Host :=
 ⟨c,tries,es,ims,0,0,0,M.watchOf [M.prompt],8,0,0,.none,M.watchOf [],0,⟨room,[],0⟩,0,[],0⟩
def EndedAt (w : World) (H r : Nat) : Prop :=
 ∃ tries wait htries room wake es images up play giver watch left ring demux heard out meter,w.heap[H]? = some (.cells (hostA tries wait htries room wake es images 7 0 up play giver watch left ring demux heard out meter (errV r)) 96 (0,0))
def OfPost (c : M.Cfg) (tries room : Nat) (es : List RE) (ims : List M.B) (r : Nat) (w : World) (e : Ending) (w' : World) : Prop :=
 ∃ H,e = .returned (.pointer (some ⟨H,0,none⟩)) ∧ Only [] w w' ∧ w.heap.size ≤ H ∧ (r ≠ 0 → EndedAt w' H r) ∧ (r = 0 → ∃ fp,HostIs w' H fp ((host0 c tries room (es.map RE.toM) ims).send [13]) ∧ ∀ b,b ∈ fp → w.heap.size ≤ b)
theorem MakeLoop.next {w6 wr w7 w8 : World} {H : Nat} {c : M.Cfg} {tries room D : Nat} {es : Value} {S Dm : Nat} {ims : List M.B} {k : Nat} {im : M.B} {ro : List Nat} {av a7 a8 : Option Addr} {cv c7 c8 : Nat} {us0 : List Value} (hs6 : w6.heap.size = H + 1) (him : ims[k]? = some im) (hlk : (ims.take k).length = k) (hHr : wr.heap[H]? = some (.cells (hostMk c tries room D es (.slice av k cv) S Dm) 96 (0,0))) (hP : Parts wr (H + 1) ro (.slice av k cv) (ims.take k)) (ho : Only [H] w6 wr) (hus0 : wr.ownsRow (H + 1) 22 1 (.slice av k cv) k us0) (hus1 : ∀ (j : Nat) q,(ims.take k)[j]? = some q → ∃ u,us0[j]? = some u ∧ Slc wr ro u q) (own7 : w7.ownsRow wr.heap.size 5 1 (.slice a7 im.length c7) im.length (im.map byteV)) (o7 : Only [] wr w7) {o : Obj} (own8 : w8.ownsRow (H + 1) 22 1 (.slice a8 (k + 1) c8) (k + 1) (us0 ++ [.slice a7 im.length c7])) (grow8 : (w7.alloc o).grownBy w8 (Value.slice av k cv).ownBlock) (at8 : ∀ g',(Value.slice a8 (k + 1) c8).ownBlock = some g' → (Value.slice av k cv).ownBlock = some g' ∨ (w7.alloc o).heap.size ≤ g') :
  MakeLoop w6 H c tries room D es S Dm ims (k + 1) (w8.setCell ⟨H,6,none⟩ (.slice a8 (k + 1) c8)) := by
 have hHl := heap_lt hHr
 have hal : (w7.alloc o).heap.size = w7.heap.size + 1 := by simp
 have htk : ims.take (k + 1) = ims.take k ++ [im] := by
  obtain ⟨h1,h2⟩ := List.getElem?_eq_some_iff.1 him
  rw [List.take_succ_eq_append_getElem h1,h2]
 have hp := Parts.push (w := w7) (w1 := w8) (B1 := wr.heap.size) (n := k + 1) (o := o) (p := im) (hP.of_only o7 (fun b hb => by simp at hb)) (ownsRow_base own7 (Nat.zero_le _)) (fun g e => (own7.lt g e).1) (fun g e => (hus0.lt g e).2) (by omega) grow8 (fun g e => (at8 g e).imp id (by omega)) us0 own8 (by rw [hlk]) (by rw [hlk];exact ownsRow_only hus0 o7 (by simp)) (fun j q hj => by
   obtain ⟨u,h1,h2⟩ := hus1 j q hj
   exact ⟨u,h1,h2.of_only o7 (fun b _ => by simp)⟩)
 have hnH : H ∉ ownL (.slice av k cv) := fun hm => by have := (hus0.lt H (mem_ownL.1 hm)).1;omega
 have o78 : Only (ownL (.slice av k cv)) w7 w8 := ((Only.refl _ w7).alloc o).trans (only_grown grow8)
 have h8 := o78.heap (o7.heap hHr (by simp)) hnH
 refine ⟨.slice a8 (k + 1) c8,ro ++ ownL (.slice a7 im.length c7),hs_same h8 rfl,?_,?_⟩
 ·rw [htk]
  exact hp.of_only (only_set w8 H 6 _) (fun b hb => by simp at hb;omega)
 ·have o6 : Only [H] w6 w8 := ((ho.trans (o7.weaken (by simp))).alloc o).grown grow8 (fun b hb => .inr (by have := (hus0.lt b hb).1;omega))
  exact o6.trans (only_set w8 H 6 _)
def makeF (H R S Dm : Nat) (l1 l2 l3 : List Nat) : Nat → List Nat
 | 0 => [H]
 | 1 => l1
 | 2 => l2
 | 3 => l3
 | 6 => [R,S]
 | 7 => [Dm]
 | _ => []
def makeG (H R S Dm D0 K : Nat) (b : Nat) : Nat := if b = H then 0 else if b = D0 then 3 else if b = R then 6 else if b = S then 6 else if b = Dm then 7 else if b < R then 1 else if b < K then 2 else 3
theorem hfl_zero : floatOfInt .f64 0 = 0 := by decide
theorem capOf_in (room : Nat) (h3 : 1 ≤ room) (h4 : room ≤ 4096) : capOf room = room := by
 unfold capOf
 split
 ·omega
 ·rw [if_pos (by omega)];omega
theorem host_make {w : World} {H R S Dm D D0 P K B2 N0 n c3 tries room : Nat} {c : M.Cfg} {a3 : Option Addr} {vi : Value} {ro fp : List Nat} {es : List RE} {ims : List M.B} (hH : w.heap[H]? = some (.cells ((hostMk c tries room D (.slice a3 n c3) vi S Dm).setIfInBounds 10 (.pointer (some ⟨P,0,none⟩))) 96 (0,0))) (own3 : w.ownsRow B2 39 5 (.slice a3 n c3) n (esCells es)) (hn : es.length = n) (hn8 : n ≤ 8) (hpos : ∀ e,e ∈ es → e.Pos) (hP : Parts w (H + 1) ro vi ims) (hL : ListensAt w P (P :: fp) 8 (M.watchOf [[61,62,32]])) (hR : Ringed w R S room 0 [] 0) (hD : Demuxed w Dm (Dm + 1) (.slice none 0 0) 1 0 []) (hc : CfgOk c) (b0 : N0 ≤ D0) (b1 : D0 < B2) (b2 : ∀ g,(Value.slice a3 n c3).ownBlock = some g → g < R) (b3 : R < S) (b4 : S < Dm) (b5 : Dm < H) (b6 : H < K) (b7 : ∀ g,vi.ownBlock = some g → g < K) (b8 : ∀ b,b ∈ ro → b < K) (b9 : ∀ b,b ∈ P :: fp → K ≤ b ∨ b = D0) (b10 : B2 ≤ R) :
  ∃ fpH,HostIs w H fpH (host0 c tries room (es.map RE.toM) ims) ∧ ∀ b,b ∈ fpH → N0 ≤ b := by
 obtain ⟨us,hus,_⟩ := id hP.own
 have g1 : ∀ b,b ∈ ownL (.slice a3 n c3) → B2 ≤ b ∧ b < R := fun b hb => ⟨(own3.lt b (mem_ownL.1 hb)).1,b2 b (mem_ownL.1 hb)⟩
 have g2 : ∀ b,b ∈ ownL vi ++ ro → H + 1 ≤ b ∧ b < K := fun b hb => by
  rcases List.mem_append.1 hb with h | h
  ·exact ⟨(hus.lt b (mem_ownL.1 h)).1,b7 b (mem_ownL.1 h)⟩
  ·exact ⟨(hP.lo b h).1,b8 b h⟩
 obtain ⟨ai,ci,hvi,hsl,hci⟩ := hP.slcs
 refine ⟨_,⟨⟨room,.slice (some ⟨D,0,none⟩) 5 5,.slice a3 n c3,vi,P,.nilIface,.pointer none,R,S,0,Dm,Dm + 1,.slice none 0 0,1,[],none,0,[],none,0,0,0⟩,makeF H R S Dm (ownL (.slice a3 n c3)) (ownL vi ++ ro) (P :: fp),rfl,?_⟩,?_⟩
 ·refine ⟨?_,rfl,⟨makeG H R S Dm D0 K,fun j => ?_,fun j => ?_⟩,⟨fun _ => ?_,fun _ => ⟨ai,ci,hvi,hci,hsl⟩,fun _ => ⟨fun _ => hL,fun e => by cases e⟩,fun _ => trivial,fun _ h0 _ _ _ => absurd rfl h0,fun _ => ⟨hR,rfl⟩,fun _ => ⟨hD,rfl⟩,fun _ => ⟨World.ownsRow_nil _ _ _ _,rfl,rfl⟩,fun _ => ⟨World.ownsRow_nil _ _ _ _,rfl⟩⟩,⟨hc,Int.le_refl _,(by decide : (0 : Int) ≤ 1099511627776),Int.le_refl _,(by decide : (0 : Int) ≤ 1099511627776),Nat.zero_le _,by show (es.map RE.toM).length ≤ 8;rw [List.length_map];omega,Nat.zero_le _⟩⟩
  ·rw [hH]
   unfold hostZ
   rw [hfl_zero]
   rfl
  ·unfold makeF
   intro b hb
   unfold makeG
   split at hb
   ·simp at hb;subst hb;rw [if_pos rfl]
   ·have := g1 b hb
    rw [if_neg (by omega),if_neg (by omega),if_neg (by omega),if_neg (by omega),if_neg (by omega),if_pos (by omega)]
   ·have := g2 b hb
    rw [if_neg (by omega),if_neg (by omega),if_neg (by omega),if_neg (by omega),if_neg (by omega),if_neg (by omega),if_pos (by omega)]
   ·rcases b9 b hb with h | h
    ·rw [if_neg (by omega),if_neg (by omega),if_neg (by omega),if_neg (by omega),if_neg (by omega),if_neg (by omega),if_neg (by omega)]
    ·rw [if_neg (by omega),if_pos h]
   ·simp at hb
    rcases hb with rfl | rfl
    ·rw [if_neg (by omega),if_neg (by omega),if_pos rfl]
    ·rw [if_neg (by omega),if_neg (by omega),if_neg (by omega),if_pos rfl]
   ·simp at hb
    subst hb
    rw [if_neg (by omega),if_neg (by omega),if_neg (by omega),if_neg (by omega),if_pos rfl]
   ·simp at hb
  ·unfold makeF
   intro b hb
   have l1 := hR.lt
   have l2 := heap_lt hD.str
   have l3 := heap_lt hH
   split at hb
   ·simp at hb;omega
   ·exact (own3.lt b (mem_ownL.1 hb)).2
   ·rcases List.mem_append.1 hb with h | h
    ·exact (hus.lt b (mem_ownL.1 h)).2
    ·exact (hP.lo b h).2
   ·exact hL.live b hb
   ·simp at hb;omega
   ·simp at hb;omega
   ·simp at hb
  ·refine ⟨a3,c3,by show Value.slice a3 n c3 = Value.slice a3 (es.map RE.toM).length c3;rw [List.length_map,hn],?_,fun hne => ?_⟩
   ·show (es.map RE.toM).length ≤ c3
    rw [List.length_map,hn]
    rcases own3.2 with ⟨e,h0⟩ | ⟨_,_,_,e,_,_,hle,_⟩
    ·omega
    ·cases e;exact hle
   ·have hn0 : 0 < n := by
     rw [← hn]
     apply Nat.pos_of_ne_zero
     intro h0
     apply hne
     show es.map RE.toM = []
     rw [List.eq_nil_of_length_eq_zero h0];rfl
    rcases own3.2 with ⟨e,h0⟩ | ⟨g,_,_,e,_⟩
    ·omega
    ·cases e
     exact ⟨g,rfl,(by simp [ownL,Value.ownBlock] : g ∈ ownL (.slice (some ⟨g,0,none⟩) n c3)),esAt_of_row own3 hn hpos⟩
 ·intro b hb
  obtain ⟨j,_,hb⟩ := mem_allF.1 hb
  unfold makeF at hb
  split at hb
  ·simp at hb;omega
  ·have := g1 b hb;omega
  ·have := g2 b hb;omega
  ·rcases b9 b hb with h | h <;> omega
  ·simp at hb;omega
  ·simp at hb;omega
  ·simp at hb
end Go.Proofs.YtplaamfoeaaaiaaGreatDoor
