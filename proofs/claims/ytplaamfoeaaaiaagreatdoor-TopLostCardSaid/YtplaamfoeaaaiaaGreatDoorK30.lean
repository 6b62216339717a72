/- A part of the proofs of the laws of lifelinetop (TopNever, TopLost, TopRoom): contracts of functions that these laws reach. No condition of its own. -/
import Derived.Test.YtplaamfoeaaaiaaGreatDoorK02
import Derived.Test.YtplaamfoeaaaiaaGreatDoorK29
import Derived.Lib.AppendStr
set_option maxRecDepth 100000
set_option maxHeartbeats 8000000
set_option linter.unusedVariables false
namespace Go.Proofs.YtplaamfoeaaaiaaGreatDoor
open Go.RowKit
theorem strCells_list (t : List UInt8) : Lib.strCells ⟨t.toArray⟩ = t.map byteV := by
 simp [Lib.strCells]
theorem run_appStrAt (w : World) (base : Nat) (ty : TypeId) (v : Value) (n : Nat) (xs : List Value) (hown : w.ownsRow base 5 1 v n xs) (t : ByteArray) (hl : n + t.size ≤ 140737488355328) (hbase : base ≤ w.heap.size) :
  ∃ v' w',(Builtin.append_ #[22,9] ty #[v,.string t]).run Tryz.prog w = .ok v' w' ∧ w'.ownsRow base 5 1 v' (n + t.size) (xs ++ Lib.strCells t) ∧ w.grownBy w' v.ownBlock ∧ (v'.ownBlock = v.ownBlock ∨ v'.ownBlock = some w.heap.size) := by
 obtain ⟨i0,hi,hz0,hz1,hz2⟩ := info_parts Tryz.info5
 obtain ⟨v',w',hr,h2,h3,h4⟩ := Lib.run_append_own_string (P := Tryz.prog) w base 22 9 ty 5 i0 Tryz.underlying22 Tryz.underlying9 hi hz0 hz1 hz2 v n xs hown t (by unfold maxLen;omega) hl hbase
 refine ⟨v',w',hr,h2,h3,?_⟩
 have hxl : xs.length = n := by simpa using hown.1
 rcases hown.2 with ⟨rfl,rfl⟩ | ⟨g,cap,cur,rfl,hbg,hg,hnc,hcm,hcs,htake⟩
 ·by_cases h0 : t.size = 0
  ·left
   rw [h4.2 ⟨rfl,h0⟩]
  ·right
   have hr2 := run_append_nil_string (P := Tryz.prog) w 22 9 ty 5 i0 (.int .u8 0) Tryz.underlying22 Tryz.underlying9 hi hz0 t (by omega) (by omega) (by rw [hz2];omega)
   rw [hr2] at hr
   obtain ⟨e1,_⟩ := Result.ok.inj hr
   rw [← e1]
   rfl
 ·have hcs' : cur.size = cap := by simpa using hcs
  by_cases hroom : n + t.size ≤ cap
  ·have hr2 := Lib.run_append_room_string (P := Tryz.prog) w 22 9 ty 5 i0 Tryz.underlying22 Tryz.underlying9 hi hz1 g n cap cur hg t hroom (by omega)
   rw [hr2] at hr
   obtain ⟨e1,_⟩ := Result.ok.inj hr
   left
   rw [← e1]
   rfl
  ·have holds : ∀ j u,xs[j]? = some u → w.cell? ((⟨g,0,none⟩ : Addr).add j) = some u := hown.cells (g := g) rfl
   have hr2 := Lib.run_append_grow_string (P := Tryz.prog) w 22 9 ty 5 i0 (.int .u8 0) Tryz.underlying22 Tryz.underlying9 hi hz0 ⟨g,0,none⟩ n cap xs (by rw [hz1];simpa using hxl) holds t (by omega) (by omega) (by rw [hz2];exact growslice_fits (by omega) (by omega))
   rw [hr2] at hr
   obtain ⟨e1,_⟩ := Result.ok.inj hr
   right
   rw [← e1]
   rfl
theorem wpList_appStr (w : World) {ops : Array Oper} {rest : List Oper} {o : Oper} {a : Act} {Q : Exit → Act → World → Prop} (hg : o.guard = none) (s x : Operand) (hop : o.op = Op.call { callee := Callee.builtin Builtin.append,args := #[s,x],argTypes := #[22,9] }) (base : Nat) (v : Value) (n : Nat) (xs : List UInt8) (hs : a.eval s = v) (hown : w.ownsRow base 5 1 v n (xs.map byteV)) (t : List UInt8) (hx : a.eval x = strB t) (zs : List UInt8) (hz : xs ++ t = zs) (N : Nat) (hN : n + t.length = N) (hl : N ≤ 140737488355328) (hbase : base ≤ w.heap.size) (hK : ∀ a' c' w',w'.ownsRow base 5 1 (.slice a' N c') N (zs.map byteV) → w.grownBy w' v.ownBlock → (∀ g',(Value.slice a' N c').ownBlock = some g' → v.ownBlock = some g' ∨ w.heap.size ≤ g') → wpList Tryz.prog ops Q rest (a.put o.dst (.slice a' N c')) w') :
  wpList Tryz.prog ops Q (o :: rest) a w := by
 subst hz
 subst hN
 have hsz : (⟨t.toArray⟩ : ByteArray).size = t.length := by simp [ByteArray.size]
 refine wpList_plain hg fun K hK' => ?_
 obtain ⟨v',w',hrun,h1,h2,h3⟩ := run_appStrAt w base o.type v n _ hown ⟨t.toArray⟩ (by rw [hsz];omega) hbase
 rw [hsz,strCells_list,← List.map_append] at h1
 obtain ⟨a',c',rfl⟩ := own_slice h1
 unfold Oper.wp execOp
 simp only [hop,resolve,invoke,builtin,Sem.run_bind,Sem.run_pure,Result.andThen_ok,List.map_toArray,List.map_cons,List.map_nil,hs,hx,hrun]
 refine hK' _ _ (hK _ _ w' h1 h2 (fun g' e => ?_))
 rcases h3 with h3 | h3
 ·left;rw [← h3];exact e
 ·right;rw [h3] at e;cases e;exact Nat.le_refl _
theorem m293_Done (b : Nat) (w : World) : (method 492 293 (.pointer (some ⟨b,0,none⟩)) "Done").run Tryz.prog w = .ok (248,.pointer (some ⟨b,0,none⟩)) w := by kernel_rfl
theorem m293_Put (b : Nat) (w : World) : (method 492 293 (.pointer (some ⟨b,0,none⟩)) "Put").run Tryz.prog w = .ok (246,.pointer (some ⟨b,0,none⟩)) w := by kernel_rfl
theorem m293_Tick (b : Nat) (w : World) : (method 492 293 (.pointer (some ⟨b,0,none⟩)) "Tick").run Tryz.prog w = .ok (247,.pointer (some ⟨b,0,none⟩)) w := by kernel_rfl
theorem m293_Data (b : Nat) (w : World) : (method 492 293 (.pointer (some ⟨b,0,none⟩)) "Data").run Tryz.prog w = .ok (250,.pointer (some ⟨b,0,none⟩)) w := by kernel_rfl
theorem m291_Done (b : Nat) (w : World) : (method 492 291 (.pointer (some ⟨b,0,none⟩)) "Done").run Tryz.prog w = .ok (242,.pointer (some ⟨b,0,none⟩)) w := by kernel_rfl
theorem m291_Put (b : Nat) (w : World) : (method 492 291 (.pointer (some ⟨b,0,none⟩)) "Put").run Tryz.prog w = .ok (243,.pointer (some ⟨b,0,none⟩)) w := by kernel_rfl
theorem m291_Tick (b : Nat) (w : World) : (method 492 291 (.pointer (some ⟨b,0,none⟩)) "Tick").run Tryz.prog w = .ok (244,.pointer (some ⟨b,0,none⟩)) w := by kernel_rfl
theorem m291_Data (b : Nat) (w : World) : (method 492 291 (.pointer (some ⟨b,0,none⟩)) "Data").run Tryz.prog w = .ok (241,.pointer (some ⟨b,0,none⟩)) w := by kernel_rfl
def M.Taker.over : M.Taker → Bool
 | .none => false
 | .one r => r.over
 | .batch r => r.over
def M.Taker.err : M.Taker → Nat
 | .none => 0
 | .one r => r.err
 | .batch r => r.err
def M.Taker.data : M.Taker → M.B
 | .none => []
 | .one r => r.data
 | .batch r => r.data
def DPost (w0 : World) (T : Nat) (fp0 : List Nat) (N : Nat) (r : M.B × M.Board) (x : Ending) (w' : World) : Prop :=
 ∃ v fp',x = .returned v ∧ Out w0 w' v r.1 ∧ Boarded w' T fp' N r.2 ∧ Ev w0 w' fp0 fp' ∧ ∀ g,v.ownBlock = some g → g ∉ fp'
def LoadedOk (t : M.Board) : Prop := t.taker.over = true → t.taker.err = 0 → t.addr < 16384 ∧ t.taker.data.length ≤ 16384 - t.addr ∧ 0 < t.taker.data.length
theorem loaded_no (t : M.Board) (out : M.B) (h : t.taker.over = false) : t.loaded out = (out,t) := by
 unfold M.Board.loaded
 cases ht : t.taker with
 | none => rfl
 | one r => rw [ht] at h;simp [M.Taker.over] at h;simp [h]
 | batch r => rw [ht] at h;simp [M.Taker.over] at h;simp [h]
theorem loaded_bad (t : M.Board) (out : M.B) (h : t.taker.over = true) (he : t.taker.err ≠ 0) : t.loaded out = (out ++ [33,13,10,61,62,32],{ t with taker := .none }) := by
 unfold M.Board.loaded
 cases ht : t.taker with
 | none => rw [ht] at h;simp [M.Taker.over] at h
 | one r => rw [ht] at h he;simp [M.Taker.over] at h;simp [M.Taker.err] at he;simp [h,he,mprompt]
 | batch r => rw [ht] at h he;simp [M.Taker.over] at h;simp [M.Taker.err] at he;simp [h,he,mprompt]
theorem loaded_ok (t : M.Board) (out : M.B) (h : t.taker.over = true) (he : t.taker.err = 0) (ha : t.addr < 16384) (hl : t.taker.data.length ≤ 16384 - t.addr) : t.loaded out = (out ++ [13,10,61,62,32],{ t with taker := .none,store := wr t.store t.addr t.taker.data }) := by
 have h1 : t.addr ≤ 16384 := by omega
 unfold M.Board.loaded
 cases ht : t.taker with
 | none => rw [ht] at h;simp [M.Taker.over] at h
 | one r => rw [ht] at h he hl;simp [M.Taker.over] at h;simp [M.Taker.err] at he;simp [M.Taker.data] at hl;simp [h,he,mprompt,M.fits,h1,hl,M.Taker.data];rfl
 | batch r => rw [ht] at h he hl;simp [M.Taker.over] at h;simp [M.Taker.err] at he;simp [M.Taker.data] at hl;simp [h,he,mprompt,M.fits,h1,hl,M.Taker.data];rfl
theorem loaded_end {w0 w w4 w5 : World} {T S n N L : Nat} {vl tv vr v : Value} {tf fp0 : List Nat} {t : M.Board} {G : Nat → Nat} {out say : List UInt8} {a' : Option Addr} {c' : Nat} {st : Nat → UInt8} (hb : Brd w T S vl tv tf vr n t G) (hn : n ≤ N) (ho : Out w0 w v out) (he : Ev w0 w fp0 (dfp T S vl tf vr)) (hv : ∀ g,v.ownBlock = some g → g ∉ dfp T S vl tf vr) (h4 : w4.heap[T]? = some (.cells (brdA { t with taker := .none,store := st } S vl .nilIface vr) 84 (0,0))) (hs4 : Stored w4 S st) (o4 : Only [T,S] w w4) (hw5 : w5.ownsRow w0.heap.size 5 1 (.slice a' L c') L ((out ++ say).map byteV)) (hg5 : w4.grownBy w5 v.ownBlock) (ha5 : ∀ g',(Value.slice a' L c').ownBlock = some g' → v.ownBlock = some g' ∨ w4.heap.size ≤ g') (hL : L = (out ++ say).length) :
  DPost w0 T fp0 N (out ++ say,{ t with taker := .none,store := st }) (.returned (.slice a' L c')) w5 := by
 have hP := hb.parts
 have hvT : v.ownBlock ≠ some T := fun e => hv T e (by simp [dfp])
 have hvS : v.ownBlock ≠ some S := fun e => hv S e (by simp [dfp])
 have o45 : Only (ownL v) w4 w5 := only_grown hg5
 have o5 : Only (T :: S :: ownL v) w w5 := (o4.weaken (by intro b hb;simp at hb ⊢;rcases hb with h | h <;> simp [h])).trans (o45.weaken (by intro b hb;simp [hb]))
 have hsv : ∀ f : List Nat,(∀ b,b ∈ f → b ∈ dfp T S vl tf vr) → Sep f (ownL v) := fun f hf b hb hx => hv b (mem_ownL.1 hx) (hf b hb)
 have h5 : w5.heap[T]? = some (.cells (brdA { t with taker := .none,store := st } S vl .nilIface vr) 84 (0,0)) := o45.heap h4 (fun h => hvT (mem_ownL.1 h))
 obtain ⟨q1,q2⟩ := hb.step (w' := w5) (vl' := vl) (tv' := .nilIface) (vr' := vr) (tf' := []) (n' := n) (t' := { t with taker := .none,store := st }) 9 h5 (hs4.of_only o45 (fun h => hvS (mem_ownL.1 h))) (hb.lin' o5 (Sep.cons hP.tl (Sep.cons hP.sl (hsv _ (fun b hb => by simp [dfp,hb]))))) ⟨rfl,rfl⟩ (hb.rep' o5 (Sep.cons hP.tr (Sep.cons hP.sr (hsv _ (fun b hb => by simp [dfp,hb]))))) (.inl fun b h => h) (.inl fun b h => by simp at h) (.inl fun b h => h) hb.ll hb.ok
 have hf0 : ∀ b,v.ownBlock = some b → w0.heap.size ≤ b := fun b e => (ho.fresh b e).1
 refine ⟨_,_,rfl,?_,⟨S,vl,.nilIface,[],vr,n,_,hn,rfl,q1⟩,?_,fun g e hm => ?_⟩
 ·unfold Out;rw [← hL];exact hw5
 ·refine ⟨⟨o5.os.trans he.only.os,o5.tape.trans he.only.tape,o5.output.trans he.only.output,Nat.le_trans he.only.size o5.size,fun k hk hn' => ?_⟩,fun b hb => ?_⟩
  ·rw [o5.block k (Nat.lt_of_lt_of_le hk he.only.size) (fun hm => ?_)]
   ·exact he.only.block k hk hn'
   ·simp only [List.mem_cons,mem_ownL] at hm
    rcases hm with rfl | rfl | hm
    ·rcases he.grow k (by simp [dfp]) with h' | h'
     ·exact hn' h'
     ·omega
    ·rcases he.grow k (by simp [dfp]) with h' | h'
     ·exact hn' h'
     ·omega
    ·have := hf0 k hm;omega
  ·rcases q2 b hb with h' | h'
   ·exact he.grow b h'
   ·right;exact Nat.le_trans he.only.size h'
 ·have hm' : g ∈ dfp T S vl tf vr := by
   simp only [dfp,List.mem_cons,List.mem_append,List.not_mem_nil,false_or] at hm ⊢
   rcases hm with h | h | h | h
   ·exact .inl h
   ·exact .inr (.inl h)
   ·exact .inr (.inr (.inl h))
   ·exact .inr (.inr (.inr (.inr h)))
  rcases ha5 g e with h' | h'
  ·exact hv g h' hm'
  ·have h1 := hb.live g hm'
   have h2 := o4.size
   omega
theorem keepS {w1 w2 : World} {ks : List Nat} {T i j k : Nat} {x y z : Value} (h : w1.cell? ⟨T,i,none⟩ = some x ∧ w1.cell? ⟨T,j,none⟩ = some y ∧ w1.cell? ⟨T,k,none⟩ = some z) (o : Only ks w1 w2) (hT : T ∉ ks) : w2.cell? ⟨T,i,none⟩ = some x ∧ w2.cell? ⟨T,j,none⟩ = some y ∧ w2.cell? ⟨T,k,none⟩ = some z :=
 ⟨o.cell h.1 hT,o.cell h.2.1 hT,o.cell h.2.2 hT⟩
theorem errV_ne {e : Nat} (h : e ≠ 0) : errV e = .iface 57 (.int .i64 e) := errV_pos (by omega)
theorem loaded_one (T S : Nat) (w0 : World) (fp0 : List Nat) (N : Nat) (t : M.Board) (v : Value) (out : M.B) (w : World) (vl tv : Value) (tf : List Nat) (vr : Value) (n : Nat) (G : Nat → Nat) (R : Nat) (htv : tv = .iface 293 (.pointer (some ⟨R,0,none⟩))) (hb : Brd w T S vl tv tf vr n t G) (hn : n ≤ N) (ho : Out w0 w v out) (hol : out.length ≤ 1000000) (he : Ev w0 w fp0 (dfp T S vl tf vr)) (hv : ∀ g,v.ownBlock = some g → g ∉ dfp T S vl tf vr) (hok : LoadedOk t) (HD : ∀ wx,Only [] w wx → Calls Tryz.prog 248 #[.pointer (some ⟨R,0,none⟩)] wx fun e w' => e = .returned (.tuple #[.bool t.taker.over,errV t.taker.err]) ∧ Only [] wx w') (HT : ∀ wx,Only [] w wx → Calls Tryz.prog 250 #[.pointer (some ⟨R,0,none⟩)] wx fun e w' => ∃ v,e = .returned v ∧ Out wx w' v t.taker.data ∧ Only [] wx w') :
  Calls Tryz.prog 75 #[.pointer (some ⟨T,0,none⟩),v] w (DPost w0 T fp0 N (t.loaded out)) := by
 subst htv
 have c5 : w.cell? ⟨T,5,none⟩ = some (.iface 293 (.pointer (some ⟨R,0,none⟩))) := cell_at hb.str rfl
 have hm := fun w => m293_Done R w
 have hm2 := fun w => m293_Data R w
 have hlt := hb.live
 have HDn := HD w (Only.refl _ _)
 by_cases hov : t.taker.over = true
 ·rw [hov] at HDn
  obtain ⟨va,vc,rfl⟩ := own_slice ho
  have hcat1 : ({ data := #[33,13,10] } ++ { data := #[61,62,32] } : ByteArray) = { data := #[33,13,10,61,62,32] } := by simp [ByteArray.mk_append_mk]
  have hcat2 : ({ data := #[13,10] } ++ { data := #[61,62,32] } : ByteArray) = { data := #[13,10,61,62,32] } := by simp [ByteArray.mk_append_mk]
  have hTv : (Value.slice va out.length vc).ownBlock ≠ some T := fun e => hv T e (by simp [dfp])
  by_cases her : t.taker.err = 0
  ·obtain ⟨ha,hl,h0⟩ := hok hov her
   rw [her,errV_zero] at HDn
   rw [loaded_ok t out hov her ha hl]
   have q1 := fun w => neq_nn w
   have hP := hb.parts
   have hsto := hb.sto
   have hSv : (Value.slice va out.length vc).ownBlock ≠ some S := fun e => hv S e (by simp [dfp])
   have HW := fun w2 (o2 : Only [] w w2) a c (d : List UInt8) (hd : d = t.taker.data) (hby : Bytes w2 a d) => write_store S t.store t.addr a d.length c d w2 (hsto.of_only o2 (by simp)) ha (by rw [hd];exact hl) (by rw [hd];exact h0) hby rfl
   have H := LH (AI hb (AI hn (AI ho (AI he (AI hv (AI hol (AI hP (AI hTv hSv))))))))
   have hTS : T ∉ [S] := by simpa using Ne.symm hP.st
   clear hb hn ho he hv hok hov her HD hol hP hsto ha hl h0 hTv hSv
   go_enter Tryz.func75,Tryz.ntmps75
   go_upto_region 5 with (go_at_call 248;refine (HDn).mono ?_;rintro e w1 ⟨rfl,ho1⟩;have HO1 := LH ho1;clear ho1)
   have h1 := HO1.out.heap H.out.1.str (by simp)
   clear c5
   have x0 : w1.cell? ⟨T,0,none⟩ = some (.pointer (some ⟨S,0,none⟩)) := cell_at h1 rfl
   have x5 : w1.cell? ⟨T,5,none⟩ = some (.iface 293 (.pointer (some ⟨R,0,none⟩))) := cell_at h1 rfl
   have x6 : w1.cell? ⟨T,6,none⟩ = some (.int .i64 t.addr) := cell_at h1 rfl
   have H1 := LH h1
   clear h1
   have HTd := HT w1.drew (HO1.out.trans ((Only.refl _ _).drew))
   clear HT
   go_region_held3 (fun w' => w'.cell? ⟨T,0,none⟩ = some (.pointer (some ⟨S,0,none⟩)) ∧ w'.cell? ⟨T,5,none⟩ = some (.iface 293 (.pointer (some ⟨R,0,none⟩))) ∧ w'.cell? ⟨T,6,none⟩ = some (.int .i64 t.addr)) (first
     | (exact keepS (‹_ ∧ _ ∧ _›) ho3 hTS)
     | (exact keepS (‹_ ∧ _ ∧ _›) ho2 (by simp))
     | (exact keepS ⟨‹_›,‹_›,‹_›⟩ ho2 (by simp))
     | (exact ⟨‹_›,‹_›,‹_›⟩)
     | go_keep)
    (first
     | (go_at_call 250;refine (HTd).mono ?_;rintro e w2 ⟨vd,rfl,hod,ho2⟩;obtain ⟨da,dc,rfl,z1,z2,z3,z4,z5,z6⟩ := hod.read)
     | (go_at_call 100;refine (HW w2 (HO1.out.trans (((Only.refl _ _).drew).trans ho2)) da dc _ rfl z1).mono ?_;rintro e w3 ⟨rfl,hst3,ho3⟩))
   have o3 : Only [S] w w3 := (((HO1.out.trans ((Only.refl _ _).drew)).trans ho2).weaken (by simp)).trans ho3
   have h3 : w3.heap[T]? = some (.cells (brdA t S vl (.iface 293 (.pointer (some ⟨R,0,none⟩))) vr) 84 (0,0)) := o3.heap H.out.1.str hTS
   have y5 : w3.frozen? ⟨T,5,none⟩ = false := free_at h3
   have w5c : w3.cell? ⟨T,5,none⟩ = some (.iface 293 (.pointer (some ⟨R,0,none⟩))) := cell_at h3 rfl
   have o4 : Only [T,S] w (w3.setCell ⟨T,5,none⟩ .nilIface) := (o3.weaken (by simp)).setCell (by simp) _
   have h4 : (w3.setCell ⟨T,5,none⟩ .nilIface).heap[T]? = some (.cells (brdA { t with taker := .none,store := wr t.store t.addr t.taker.data } S vl .nilIface vr) 84 (0,0)) := hs_same h3 rfl
   have hs4 : Stored (w3.setCell ⟨T,5,none⟩ .nilIface) S (wr t.store t.addr t.taker.data) := hst3.of_only (only_set w3 T 5 _) (by simpa using H.out.2.2.2.2.2.2.1.st)
   have hown4 : (w3.setCell ⟨T,5,none⟩ .nilIface).ownsRow w0.heap.size 5 1 (.slice va out.length vc) out.length (out.map byteV) := ownsRow_only H.out.2.2.1 o4 (fun g e => by
    simp
    exact ⟨fun h => H.out.2.2.2.2.2.2.2.1 (h ▸ e),fun h => H.out.2.2.2.2.2.2.2.2 (h ▸ e)⟩)
   have hb4 : w0.heap.size ≤ (w3.setCell ⟨T,5,none⟩ .nilIface).heap.size := Nat.le_trans H.out.2.2.2.1.size o4.size
   have hol := H.out.2.2.2.2.2.1
   have HF := LH (AI o4 (AI h4 (AI hs4 (AI hown4 hb4))))
   clear o3 h3 o4 h4 hs4 hown4 hb4 ho2 ho3 hst3 hod z1 z2 z3 z4 z5 z6 HW HTd x0 x5 x6
   go_wp2_with (at_builtin;refine wpList_appStr _ rfl (.tmp 41) (.tmp 43) rfl w0.heap.size (.slice va out.length vc) out.length out rfl HF.out.2.2.2.1 [13,10,61,62,32] rfl _ rfl (out.length + 5) rfl (by omega) HF.out.2.2.2.2 ?_;intro a' c' w5 p1 p2 p3;have HE := LH (AI p1 (AI p2 p3));clear p1 p2 p3)
   go_ret
   exact loaded_end H.out.1 H.out.2.1 H.out.2.2.1 H.out.2.2.2.1 H.out.2.2.2.2.1 HF.out.2.1 HF.out.2.2.1 HF.out.1 HE.out.1 HE.out.2.1 HE.out.2.2 (by simp)
  ·rw [errV_ne her] at HDn
   rw [loaded_bad t out hov her]
   have q1 := fun (w : World) (x : Value) => neq_in w 57 x
   have H := LH (AI hb (AI hn (AI ho (AI he (AI hv (AI hol hTv))))))
   clear hb hn ho he hv hok hov her HD hol hTv HT
   go_enter Tryz.func75,Tryz.ntmps75
   go_upto_region 5 with (go_at_call 248;refine (HDn).mono ?_;rintro e w1 ⟨rfl,ho1⟩;have HO1 := LH ho1;clear ho1)
   clear c5 HDn
   have hx := fun n => Only.drewN HO1.out n
   have HX := LH hx
   clear hx
   go_quiet (fail)
   obtain ⟨w3,hw3⟩ : ∃ w3,w3 = w1.drewN nq := ⟨_,rfl⟩
   have o3 : Only [] w w3 := by rw [hw3];exact HX.out nq
   rw [← hw3]
   clear hw3
   have h3 : w3.heap[T]? = some (.cells (brdA t S vl (.iface 293 (.pointer (some ⟨R,0,none⟩))) vr) 84 (0,0)) := o3.heap H.out.1.str (by simp)
   have y5 : w3.frozen? ⟨T,5,none⟩ = false := free_at h3
   have w5c : w3.cell? ⟨T,5,none⟩ = some (.iface 293 (.pointer (some ⟨R,0,none⟩))) := cell_at h3 rfl
   have o4 : Only [T,S] w (w3.setCell ⟨T,5,none⟩ .nilIface) := (o3.weaken (by simp)).setCell (by simp) _
   have h4 : (w3.setCell ⟨T,5,none⟩ .nilIface).heap[T]? = some (.cells (brdA { t with taker := .none,store := t.store } S vl .nilIface vr) 84 (0,0)) := hs_same h3 rfl
   have hs4 : Stored (w3.setCell ⟨T,5,none⟩ .nilIface) S t.store := (H.out.1.sto' o3 (by simp)).of_only (only_set w3 T 5 _) (by simpa using H.out.1.parts.st)
   have hown4 : (w3.setCell ⟨T,5,none⟩ .nilIface).ownsRow w0.heap.size 5 1 (.slice va out.length vc) out.length (out.map byteV) := ownsRow_only H.out.2.2.1 o4 (fun g e => by
    simp
    exact ⟨fun h => H.out.2.2.2.2.1 g e (by simp [dfp,h]),fun h => H.out.2.2.2.2.1 g e (by simp [dfp,h])⟩)
   have hb4 : w0.heap.size ≤ (w3.setCell ⟨T,5,none⟩ .nilIface).heap.size := Nat.le_trans H.out.2.2.2.1.size o4.size
   have hol := H.out.2.2.2.2.2.1
   have HF := LH (AI o4 (AI h4 (AI hs4 (AI hown4 hb4))))
   clear o3 h3 o4 h4 hs4 hown4 hb4
   go_wp2_with (at_builtin;refine wpList_appStr _ rfl (.tmp 41) (.tmp 43) rfl w0.heap.size (.slice va out.length vc) out.length out rfl HF.out.2.2.2.1 [33,13,10,61,62,32] rfl _ rfl (out.length + 6) rfl (by omega) HF.out.2.2.2.2 ?_;intro a' c' w5 p1 p2 p3;have HE := LH (AI p1 (AI p2 p3));clear p1 p2 p3)
   go_ret
   exact loaded_end H.out.1 H.out.2.1 H.out.2.2.1 H.out.2.2.2.1 H.out.2.2.2.2.1 HF.out.2.1 HF.out.2.2.1 HF.out.1 HE.out.1 HE.out.2.1 HE.out.2.2 (by simp)
 ·have hof : t.taker.over = false := by simpa using hov
  rw [hof] at HDn
  rw [loaded_no t out hof]
  have H := LH (AI hb (AI hn (AI ho (AI he hv))))
  clear hb hn ho he hv hok hov hof HD HT hol
  go_enter Tryz.func75,Tryz.ntmps75
  go_wp2_with (go_at_call 248;refine (HDn).mono ?_;rintro e w1 ⟨rfl,ho1⟩;have HO1 := LH ho1;clear ho1)
  go_ret
  exact ⟨v,_,rfl,H.out.2.2.1.of_only HO1.out (by simp),⟨S,vl,_,_,vr,n,G,H.out.2.1,rfl,H.out.1.of_none HO1.out⟩,⟨H.out.2.2.2.1.only.trans (HO1.out.weaken (by simp)),H.out.2.2.2.1.grow⟩,H.out.2.2.2.2⟩
theorem loaded_batch (T S : Nat) (w0 : World) (fp0 : List Nat) (N : Nat) (t : M.Board) (v : Value) (out : M.B) (w : World) (vl tv : Value) (tf : List Nat) (vr : Value) (n : Nat) (G : Nat → Nat) (R : Nat) (htv : tv = .iface 291 (.pointer (some ⟨R,0,none⟩))) (hb : Brd w T S vl tv tf vr n t G) (hn : n ≤ N) (ho : Out w0 w v out) (hol : out.length ≤ 1000000) (he : Ev w0 w fp0 (dfp T S vl tf vr)) (hv : ∀ g,v.ownBlock = some g → g ∉ dfp T S vl tf vr) (hok : LoadedOk t) (HD : ∀ wx,Only [] w wx → Calls Tryz.prog 242 #[.pointer (some ⟨R,0,none⟩)] wx fun e w' => e = .returned (.tuple #[.bool t.taker.over,errV t.taker.err]) ∧ Only [] wx w') (HT : ∀ wx,Only [] w wx → Calls Tryz.prog 241 #[.pointer (some ⟨R,0,none⟩)] wx fun e w' => ∃ v,e = .returned v ∧ Out wx w' v t.taker.data ∧ Only [] wx w') :
  Calls Tryz.prog 75 #[.pointer (some ⟨T,0,none⟩),v] w (DPost w0 T fp0 N (t.loaded out)) := by
 subst htv
 have c5 : w.cell? ⟨T,5,none⟩ = some (.iface 291 (.pointer (some ⟨R,0,none⟩))) := cell_at hb.str rfl
 have hm := fun w => m291_Done R w
 have hm2 := fun w => m291_Data R w
 have hlt := hb.live
 have HDn := HD w (Only.refl _ _)
 by_cases hov : t.taker.over = true
 ·rw [hov] at HDn
  obtain ⟨va,vc,rfl⟩ := own_slice ho
  have hcat1 : ({ data := #[33,13,10] } ++ { data := #[61,62,32] } : ByteArray) = { data := #[33,13,10,61,62,32] } := by simp [ByteArray.mk_append_mk]
  have hcat2 : ({ data := #[13,10] } ++ { data := #[61,62,32] } : ByteArray) = { data := #[13,10,61,62,32] } := by simp [ByteArray.mk_append_mk]
  have hTv : (Value.slice va out.length vc).ownBlock ≠ some T := fun e => hv T e (by simp [dfp])
  by_cases her : t.taker.err = 0
  ·obtain ⟨ha,hl,h0⟩ := hok hov her
   rw [her,errV_zero] at HDn
   rw [loaded_ok t out hov her ha hl]
   have q1 := fun w => neq_nn w
   have hP := hb.parts
   have hsto := hb.sto
   have hSv : (Value.slice va out.length vc).ownBlock ≠ some S := fun e => hv S e (by simp [dfp])
   have HW := fun w2 (o2 : Only [] w w2) a c (d : List UInt8) (hd : d = t.taker.data) (hby : Bytes w2 a d) => write_store S t.store t.addr a d.length c d w2 (hsto.of_only o2 (by simp)) ha (by rw [hd];exact hl) (by rw [hd];exact h0) hby rfl
   have H := LH (AI hb (AI hn (AI ho (AI he (AI hv (AI hol (AI hP (AI hTv hSv))))))))
   have hTS : T ∉ [S] := by simpa using Ne.symm hP.st
   clear hb hn ho he hv hok hov her HD hol hP hsto ha hl h0 hTv hSv
   go_enter Tryz.func75,Tryz.ntmps75
   go_upto_region 5 with (go_at_call 242;refine (HDn).mono ?_;rintro e w1 ⟨rfl,ho1⟩;have HO1 := LH ho1;clear ho1)
   have h1 := HO1.out.heap H.out.1.str (by simp)
   clear c5
   have x0 : w1.cell? ⟨T,0,none⟩ = some (.pointer (some ⟨S,0,none⟩)) := cell_at h1 rfl
   have x5 : w1.cell? ⟨T,5,none⟩ = some (.iface 291 (.pointer (some ⟨R,0,none⟩))) := cell_at h1 rfl
   have x6 : w1.cell? ⟨T,6,none⟩ = some (.int .i64 t.addr) := cell_at h1 rfl
   have H1 := LH h1
   clear h1
   have HTd := HT w1.drew (HO1.out.trans ((Only.refl _ _).drew))
   clear HT
   go_region_held3 (fun w' => w'.cell? ⟨T,0,none⟩ = some (.pointer (some ⟨S,0,none⟩)) ∧ w'.cell? ⟨T,5,none⟩ = some (.iface 291 (.pointer (some ⟨R,0,none⟩))) ∧ w'.cell? ⟨T,6,none⟩ = some (.int .i64 t.addr)) (first
     | (exact keepS (‹_ ∧ _ ∧ _›) ho3 hTS)
     | (exact keepS (‹_ ∧ _ ∧ _›) ho2 (by simp))
     | (exact keepS ⟨‹_›,‹_›,‹_›⟩ ho2 (by simp))
     | (exact ⟨‹_›,‹_›,‹_›⟩)
     | go_keep)
    (first
     | (go_at_call 241;refine (HTd).mono ?_;rintro e w2 ⟨vd,rfl,hod,ho2⟩;obtain ⟨da,dc,rfl,z1,z2,z3,z4,z5,z6⟩ := hod.read)
     | (go_at_call 100;refine (HW w2 (HO1.out.trans (((Only.refl _ _).drew).trans ho2)) da dc _ rfl z1).mono ?_;rintro e w3 ⟨rfl,hst3,ho3⟩))
   have o3 : Only [S] w w3 := (((HO1.out.trans ((Only.refl _ _).drew)).trans ho2).weaken (by simp)).trans ho3
   have h3 : w3.heap[T]? = some (.cells (brdA t S vl (.iface 291 (.pointer (some ⟨R,0,none⟩))) vr) 84 (0,0)) := o3.heap H.out.1.str hTS
   have y5 : w3.frozen? ⟨T,5,none⟩ = false := free_at h3
   have w5c : w3.cell? ⟨T,5,none⟩ = some (.iface 291 (.pointer (some ⟨R,0,none⟩))) := cell_at h3 rfl
   have o4 : Only [T,S] w (w3.setCell ⟨T,5,none⟩ .nilIface) := (o3.weaken (by simp)).setCell (by simp) _
   have h4 : (w3.setCell ⟨T,5,none⟩ .nilIface).heap[T]? = some (.cells (brdA { t with taker := .none,store := wr t.store t.addr t.taker.data } S vl .nilIface vr) 84 (0,0)) := hs_same h3 rfl
   have hs4 : Stored (w3.setCell ⟨T,5,none⟩ .nilIface) S (wr t.store t.addr t.taker.data) := hst3.of_only (only_set w3 T 5 _) (by simpa using H.out.2.2.2.2.2.2.1.st)
   have hown4 : (w3.setCell ⟨T,5,none⟩ .nilIface).ownsRow w0.heap.size 5 1 (.slice va out.length vc) out.length (out.map byteV) := ownsRow_only H.out.2.2.1 o4 (fun g e => by
    simp
    exact ⟨fun h => H.out.2.2.2.2.2.2.2.1 (h ▸ e),fun h => H.out.2.2.2.2.2.2.2.2 (h ▸ e)⟩)
   have hb4 : w0.heap.size ≤ (w3.setCell ⟨T,5,none⟩ .nilIface).heap.size := Nat.le_trans H.out.2.2.2.1.size o4.size
   have hol := H.out.2.2.2.2.2.1
   have HF := LH (AI o4 (AI h4 (AI hs4 (AI hown4 hb4))))
   clear o3 h3 o4 h4 hs4 hown4 hb4 ho2 ho3 hst3 hod z1 z2 z3 z4 z5 z6 HW HTd x0 x5 x6
   go_wp2_with (at_builtin;refine wpList_appStr _ rfl (.tmp 41) (.tmp 43) rfl w0.heap.size (.slice va out.length vc) out.length out rfl HF.out.2.2.2.1 [13,10,61,62,32] rfl _ rfl (out.length + 5) rfl (by omega) HF.out.2.2.2.2 ?_;intro a' c' w5 p1 p2 p3;have HE := LH (AI p1 (AI p2 p3));clear p1 p2 p3)
   go_ret
   exact loaded_end H.out.1 H.out.2.1 H.out.2.2.1 H.out.2.2.2.1 H.out.2.2.2.2.1 HF.out.2.1 HF.out.2.2.1 HF.out.1 HE.out.1 HE.out.2.1 HE.out.2.2 (by simp)
  ·rw [errV_ne her] at HDn
   rw [loaded_bad t out hov her]
   have q1 := fun (w : World) (x : Value) => neq_in w 57 x
   have H := LH (AI hb (AI hn (AI ho (AI he (AI hv (AI hol hTv))))))
   clear hb hn ho he hv hok hov her HD hol hTv HT
   go_enter Tryz.func75,Tryz.ntmps75
   go_upto_region 5 with (go_at_call 242;refine (HDn).mono ?_;rintro e w1 ⟨rfl,ho1⟩;have HO1 := LH ho1;clear ho1)
   clear c5 HDn
   have hx := fun n => Only.drewN HO1.out n
   have HX := LH hx
   clear hx
   go_quiet (fail)
   obtain ⟨w3,hw3⟩ : ∃ w3,w3 = w1.drewN nq := ⟨_,rfl⟩
   have o3 : Only [] w w3 := by rw [hw3];exact HX.out nq
   rw [← hw3]
   clear hw3
   have h3 : w3.heap[T]? = some (.cells (brdA t S vl (.iface 291 (.pointer (some ⟨R,0,none⟩))) vr) 84 (0,0)) := o3.heap H.out.1.str (by simp)
   have y5 : w3.frozen? ⟨T,5,none⟩ = false := free_at h3
   have w5c : w3.cell? ⟨T,5,none⟩ = some (.iface 291 (.pointer (some ⟨R,0,none⟩))) := cell_at h3 rfl
   have o4 : Only [T,S] w (w3.setCell ⟨T,5,none⟩ .nilIface) := (o3.weaken (by simp)).setCell (by simp) _
   have h4 : (w3.setCell ⟨T,5,none⟩ .nilIface).heap[T]? = some (.cells (brdA { t with taker := .none,store := t.store } S vl .nilIface vr) 84 (0,0)) := hs_same h3 rfl
   have hs4 : Stored (w3.setCell ⟨T,5,none⟩ .nilIface) S t.store := (H.out.1.sto' o3 (by simp)).of_only (only_set w3 T 5 _) (by simpa using H.out.1.parts.st)
   have hown4 : (w3.setCell ⟨T,5,none⟩ .nilIface).ownsRow w0.heap.size 5 1 (.slice va out.length vc) out.length (out.map byteV) := ownsRow_only H.out.2.2.1 o4 (fun g e => by
    simp
    exact ⟨fun h => H.out.2.2.2.2.1 g e (by simp [dfp,h]),fun h => H.out.2.2.2.2.1 g e (by simp [dfp,h])⟩)
   have hb4 : w0.heap.size ≤ (w3.setCell ⟨T,5,none⟩ .nilIface).heap.size := Nat.le_trans H.out.2.2.2.1.size o4.size
   have hol := H.out.2.2.2.2.2.1
   have HF := LH (AI o4 (AI h4 (AI hs4 (AI hown4 hb4))))
   clear o3 h3 o4 h4 hs4 hown4 hb4
   go_wp2_with (at_builtin;refine wpList_appStr _ rfl (.tmp 41) (.tmp 43) rfl w0.heap.size (.slice va out.length vc) out.length out rfl HF.out.2.2.2.1 [33,13,10,61,62,32] rfl _ rfl (out.length + 6) rfl (by omega) HF.out.2.2.2.2 ?_;intro a' c' w5 p1 p2 p3;have HE := LH (AI p1 (AI p2 p3));clear p1 p2 p3)
   go_ret
   exact loaded_end H.out.1 H.out.2.1 H.out.2.2.1 H.out.2.2.2.1 H.out.2.2.2.2.1 HF.out.2.1 HF.out.2.2.1 HF.out.1 HE.out.1 HE.out.2.1 HE.out.2.2 (by simp)
 ·have hof : t.taker.over = false := by simpa using hov
  rw [hof] at HDn
  rw [loaded_no t out hof]
  have H := LH (AI hb (AI hn (AI ho (AI he hv))))
  clear hb hn ho he hv hok hov hof HD HT hol
  go_enter Tryz.func75,Tryz.ntmps75
  go_wp2_with (go_at_call 242;refine (HDn).mono ?_;rintro e w1 ⟨rfl,ho1⟩;have HO1 := LH ho1;clear ho1)
  go_ret
  exact ⟨v,_,rfl,H.out.2.2.1.of_only HO1.out (by simp),⟨S,vl,_,_,vr,n,G,H.out.2.1,rfl,H.out.1.of_none HO1.out⟩,⟨H.out.2.2.2.1.only.trans (HO1.out.weaken (by simp)),H.out.2.2.2.1.grow⟩,H.out.2.2.2.2⟩
theorem loaded_any (T : Nat) (w0 : World) (fp0 fp : List Nat) (N : Nat) (t : M.Board) (v : Value) (out : M.B) (w : World) (h : Boarded w T fp N t) (ht : t.taker ≠ .none) (ho : Out w0 w v out) (hol : out.length ≤ 1000000) (he : Ev w0 w fp0 fp) (hv : ∀ g,v.ownBlock = some g → g ∉ fp) (hok : LoadedOk t) :
  Calls Tryz.prog 75 #[.pointer (some ⟨T,0,none⟩),v] w (DPost w0 T fp0 N (t.loaded out)) := by
 obtain ⟨S,vl,tv,tf,vr,n,G,hn,rfl,hb⟩ := h
 have htk := hb.tak
 cases htt : t.taker with
 | none => exact absurd htt ht
 | one r =>
  rw [htt] at htk
  obtain ⟨R,vb,vd,e,_,hrc⟩ := htk
  refine loaded_one T S w0 fp0 N t v out w vl tv tf vr n G R e hb hn ho hol he hv hok (fun wx hx => ?_) (fun wx hx => ?_)
  ·rw [htt];exact rdone_any R vb vd r wx (hrc.of_none hx)
  ·rw [htt];exact rdata_any R vb vd r wx (hrc.of_none hx)
 | batch r =>
  rw [htt] at htk
  obtain ⟨X,R,vb,vp,vd,f0,e,_,hrc⟩ := htk
  refine loaded_batch T S w0 fp0 N t v out w vl tv tf vr n G X e hb hn ho hol he hv hok (fun wx hx => ?_) (fun wx hx => ?_)
  ·rw [htt];exact bdone_any X R vb vp vd f0 r wx (hrc.of_none hx)
  ·rw [htt];exact bdata_any X R vb vp vd f0 r wx (hrc.of_none hx)
end Go.Proofs.YtplaamfoeaaaiaaGreatDoor
