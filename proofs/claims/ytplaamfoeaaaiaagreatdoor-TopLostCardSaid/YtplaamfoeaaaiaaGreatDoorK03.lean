/- A part of the proofs of the laws of lifelinetop (TopNever, TopLost, TopRoom): contracts of functions that these laws reach. No condition of its own. -/
import Derived.Test.YtplaamfoeaaaiaaGreatDoorK01
import Derived.Test.YtplaamfoeaaaiaaGreatDoorK02
set_option maxRecDepth 100000
set_option maxHeartbeats 8000000
set_option linter.unusedVariables false
namespace Go.Proofs.YtplaamfoeaaaiaaGreatDoor
open Go.RowKit
theorem Only.setFresh {bs : List Nat} {a w : World} (h : Only bs a w) {p : Addr} (hp : a.heap.size ≤ p.block) (u : Value) : Only bs a (w.setCell p u) := by
 have h1 : Only [p.block] w (w.setCell p u) := (Only.refl [p.block] w).setCell (by simp) u
 exact ⟨h1.os.trans h.os,h1.tape.trans h.tape,h1.output.trans h.output,Nat.le_trans h.size h1.size,fun k hk hn => (h1.block k (Nat.lt_of_lt_of_le hk h.size) (by simp;omega)).trans (h.block k hk hn)⟩
def dataAt (b : List UInt8) (k : Nat) : UInt8 := if b.length = 0 then 0 else b.getD (k % b.length) 0 + UInt8.ofNat (k / b.length)
def dataArr (b : List UInt8) (k : Nat) : Array Value := ((List.range 1024).map fun j => if j < k then byteV (dataAt b j) else .int .u8 0).toArray
theorem dataArr_set (b : List UInt8) (k : Nat) : (dataArr b k).setIfInBounds k (byteV (dataAt b k)) = dataArr b (k + 1) := by
 apply Array.ext
 ·simp [dataArr]
 ·intro i h1 h2
  simp only [dataArr,Array.size_setIfInBounds,List.size_toArray,List.length_map,List.length_range] at h1 h2
  rw [Array.getElem_setIfInBounds]
  ·simp only [dataArr,List.getElem_toArray,List.getElem_map,List.getElem_range]
   by_cases e : k = i
   ·subst e;rw [if_pos rfl,if_pos (by omega)]
   ·rw [if_neg e]
    by_cases e2 : i < k
    ·rw [if_pos e2,if_pos (by omega)]
    ·rw [if_neg e2,if_neg (by omega)]
  ·simpa [dataArr] using h1
theorem make_bytes (w : World) (c : Nat) (hc : c ≤ 1048576) : (Instr.makeSlice 22 (.int .i64 (c : Int)) (.int .i64 (c : Int))).run Tryz.prog w = .ok (.slice (some ⟨w.heap.size,0,none⟩) c c) (w.alloc (.cells (madeCells #[.int .u8 0] c) 5)) := by
 obtain ⟨i,hi,hz,hs,hb⟩ := info_parts Tryz.info5
 have hmk := run_make (P := Tryz.prog) w 22 5 i (.int .u8 0) Tryz.underlying22 hi hz .i64 .i64 c c (by omega) (by omega) (by rw [hb];omega) (by omega)
 rw [hs] at hmk
 simp only [Int.toNat_natCast,Nat.mul_one] at hmk
 exact hmk
theorem dataArr_zero (b : List UInt8) : madeCells #[.int .u8 0] 1024 = dataArr b 0 := by
 apply Array.ext
 ·simp [dataArr,size_madeCells]
 ·intro i h1 h2
  simp [dataArr,madeCells,Nat.mod_one]
theorem dataArr_nil (b : List UInt8) (k : Nat) (h : b.length = 0) : dataArr b k = dataArr b (k + 1) := by
 have h0 : ∀ j,dataAt b j = 0 := fun j => by unfold dataAt;rw [if_pos h]
 unfold dataArr
 congr 1
 apply List.map_congr_left
 intro j _
 rw [h0]
 split <;> split <;> rfl
theorem dataArr_get (b : List UInt8) (k : Nat) (hk : k < 1024) : (dataArr b k)[k]? = some (.int .u8 0) := by
 simp [dataArr,hk]
theorem data_any (a : Option Addr) (bs : List UInt8) (n c : Nat) (w : World) (hb : Bytes w a bs) (ha : bs = [] ∨ ∀ ad,a = some ad → ad.block < w.heap.size) (hn : bs.length = n) (hN : n ≤ 9223372036854775807) :
  Calls Tryz.prog 20 #[.slice a n c,.bool true] w fun e w' => e = .returned (.slice (some ⟨w.heap.size,0,none⟩) 1024 1024) ∧ w'.heap[w.heap.size]? = some (.cells (dataArr bs 1024) 5 (0,0)) ∧ Only [] w w' := by
 have HB := LH (AI hb ha)
 have HN := LH hn
 clear hb hn ha
 have hmk := fun w => make_bytes w 1024 (by omega)
 have e1024 : (((1024 : Nat) : Int)) = 1024 := rfl
 rw [e1024] at hmk
 go_enter Tryz.func20,Tryz.ntmps20
 go_wp2_with fail
 clear hmk e1024
 go_loopw [13] (fun i w' => ∃ (k : Nat),k ≤ 1024 ∧ i = .int .i64 k ∧ w'.heap[w.heap.size]? = some (.cells (dataArr bs k) 5 (0,0)) ∧ Only [] w w') (fun i _ => 1024 - (intOf i).toNat)
 case atStart => exact ⟨0,Nat.zero_le _,rfl,by rw [← dataArr_zero];exact heap_alloc_new w _,(Only.refl _ _).alloc _⟩
 case round =>
  obtain ⟨k,hk,rfl,hp,ho⟩ := hrel
  by_cases hlt : k < 1024
  ·have hgt : w.heap.size < wr.heap.size := (Array.getElem?_eq_some_iff.1 hp).1
   by_cases hz : n = 0
   ·subst hz
    have hn := dataArr_nil bs k HN.out
    rw [hn] at hp
    have HY := LH (AI hp ho)
    clear hp ho hn
    go_wp2_with fail
    go_roundw
    case rel => exact ⟨k + 1,by omega,by go_num,HY.out⟩
    case measure => simp [intOf];omega
   ·obtain ⟨m,hm⟩ : ∃ m,m = k % n := ⟨_,rfl⟩
    obtain ⟨q,hq⟩ : ∃ q,q = k / n := ⟨_,rfl⟩
    have hmn : m < n := by rw [hm];exact Nat.mod_lt _ (by omega)
    have hq1 : q ≤ 1024 := by rw [hq];exact Nat.le_trans (Nat.div_le_self _ _) hk
    obtain ⟨b,o,hba,hc⟩ := (HB.out.1.of_only ho (.inr (by intro ad e;simp))).at m (by rw [HN.out];exact hmn)
    subst hba
    obtain ⟨x,hx⟩ : ∃ x,x = bs.getD m 0 := ⟨_,rfl⟩
    rw [← hx] at hc
    have hd : dataAt bs k = x + UInt8.ofNat q := by unfold dataAt;rw [if_neg (by rw [HN.out];exact hz),HN.out,hx,hm,hq]
    have cw : wr.cell? ⟨w.heap.size,k,none⟩ = some (.int .u8 0) := cell_at hp (dataArr_get bs k hlt)
    have fw : wr.frozen? ⟨w.heap.size,k,none⟩ = false := free_at hp
    have HY := LH (AI hp (AI ho (AI hd hx)))
    clear hp ho hd hx
    have hmod : (k : Int).tmod (n : Int) = (m : Int) := by rw [Int.tmod_eq_emod_of_nonneg (by omega),hm];omega
    have hdiv : (k : Int).tdiv (n : Int) = (q : Int) := by rw [Int.tdiv_eq_ediv_of_nonneg (by omega),hq];omega
    have hz' : ((n : Int) == 0) = false := by simpa using hz
    clear hm hq
    go_wp2_with fail
    go_still_tail 16,(by kernel_rfl)
    change wpList _ _ _ _ _ wr.drew
    clear hmod hdiv
    go_wp2
    refine ⟨⟨k + 1,by omega,by go_num,?_,(HY.out.2.1.setFresh (Nat.le_refl _) _).drew⟩,by simp [intOf];omega⟩
    show (wr.setCell _ _).heap[w.heap.size]? = _
    have e : ((x.toNat : Int) + (q : Int)) % 256 = ((dataAt bs k).toNat : Int) := by
     rw [HY.out.2.2.1,UInt8.toNat_add,UInt8.toNat_ofNat'];omega
    rw [heap_set_same HY.out.1,e,← dataArr_set]
  ·obtain rfl : k = 1024 := by omega
   have HY := LH (AI hp ho)
   clear hp ho
   go_wp2_with fail
   go_ret
   exact ⟨rfl,HY.out⟩
def Live (w : World) (f : List Nat) : Prop := ∀ b,b ∈ f → b < w.heap.size
def Sep (f g : List Nat) : Prop := ∀ b,b ∈ f → b ∉ g
def Grow (f f' : List Nat) (w : World) : Prop := ∀ b,b ∈ f' → b ∈ f ∨ w.heap.size ≤ b
structure Ev (w w' : World) (f f' : List Nat) : Prop where
 only : Only f w w'
 grow : Grow f f' w
theorem Grow.refl (f : List Nat) (w : World) : Grow f f w := fun _ h => .inl h
theorem Ev.refl (f : List Nat) (w : World) : Ev w w f f := ⟨Only.refl f w,Grow.refl f w⟩
theorem Ev.trans {a b c : World} {f g h : List Nat} (p : Ev a b f g) (q : Ev b c g h) : Ev a c f h := by
 refine ⟨⟨q.only.os.trans p.only.os,q.only.tape.trans p.only.tape,q.only.output.trans p.only.output,Nat.le_trans p.only.size q.only.size,fun k hk hn => ?_⟩,fun k hk => ?_⟩
 ·refine (q.only.block k (Nat.lt_of_lt_of_le hk p.only.size) fun hg => ?_).trans (p.only.block k hk hn)
  rcases p.grow k hg with h' | h'
  ·exact hn h'
  ·omega
 ·rcases q.grow k hk with h' | h'
  ·exact p.grow k h'
  ·right;exact Nat.le_trans p.only.size h'
theorem Ev.part {w w' : World} {p p' f f' : List Nat} (h : Ev w w' p p') (hs : ∀ b,b ∈ p → b ∈ f) (hf : ∀ b,b ∈ f' → b ∈ p' ∨ b ∈ f) : Ev w w' f f' :=
 ⟨h.only.weaken hs,fun b hb => (hf b hb).elim (fun x => (h.grow b x).imp (hs b) id) .inl⟩
theorem Ev.less {w w' : World} {f f' g : List Nat} (h : Ev w w' f f') (hs : ∀ b,b ∈ g → b ∈ f') : Ev w w' f g := ⟨h.only,fun b hb => h.grow b (hs b hb)⟩
theorem Ev.of_only {w w' : World} {f g : List Nat} (h : Only g w w') (hs : ∀ b,b ∈ g → b ∈ f) : Ev w w' f f := ⟨h.weaken hs,Grow.refl f w⟩
theorem Ev.size {w w' : World} {f f' : List Nat} (h : Ev w w' f f') : w.heap.size ≤ w'.heap.size := h.only.size
theorem Ev.drew {w w' : World} {f f' : List Nat} (h : Ev w w' f f') : Ev w w'.drew f f' := ⟨h.only.drew,h.grow⟩
theorem Ev.drewN {w w' : World} {f f' : List Nat} (h : Ev w w' f f') (n : Nat) : Ev w (w'.drewN n) f f' := ⟨h.only.drewN n,h.grow⟩
theorem Ev.alloc {w w' : World} {f f' : List Nat} (h : Ev w w' f f') (o : Obj) : Ev w (w'.alloc o) f f' := ⟨h.only.alloc o,h.grow⟩
theorem Live.ev {w w' : World} {f : List Nat} (h : Live w f) (hs : w.heap.size ≤ w'.heap.size) : Live w' f := fun b hb => Nat.lt_of_lt_of_le (h b hb) hs
theorem Sep.symm {f g : List Nat} (h : Sep f g) : Sep g f := fun b hb hc => h b hc hb
theorem Sep.sub {f g f' g' : List Nat} (h : Sep f g) (hf : ∀ b,b ∈ f' → b ∈ f) (hg : ∀ b,b ∈ g' → b ∈ g) : Sep f' g' := fun b hb hc => h b (hf b hb) (hg b hc)
def Tag (T : Nat → Nat) (i : Nat) (f : List Nat) : Prop := ∀ b,b ∈ f → T b = i
def retag (T : Nat → Nat) (n i : Nat) : Nat → Nat := fun b => if b < n then T b else i
theorem Tag.keep {T : Nat → Nat} {i j : Nat} {w : World} {f : List Nat} (h : Tag T j f) (hl : Live w f) : Tag (retag T w.heap.size i) j f := fun b hb => by
 unfold retag;rw [if_pos (hl b hb)];exact h b hb
theorem Tag.grow {T : Nat → Nat} {i : Nat} {w : World} {f f' : List Nat} (h : Tag T i f) (hg : Grow f f' w) : Tag (retag T w.heap.size i) i f' := fun b hb => by
 unfold retag
 split
 ·rcases hg b hb with h' | h'
  ·exact h b h'
  ·omega
 ·rfl
theorem Tag.sep {T : Nat → Nat} {i j : Nat} {f g : List Nat} (h : Tag T i f) (k : Tag T j g) (hij : i ≠ j) : Sep f g := fun b hb hc => hij ((h b hb).symm.trans (k b hc))
abbrev ownL (v : Value) : List Nat := v.ownBlock.toList
def Out (w w' : World) (v : Value) (bs : List UInt8) : Prop := w'.ownsRow w.heap.size 5 1 v bs.length (bs.map byteV)
theorem Out.nil (w w' : World) : Out w w' (.slice none 0 0) [] := World.ownsRow_nil _ _ _ _
theorem Out.of_only {w w1 w2 : World} {v : Value} {bs : List UInt8} {ks : List Nat} (h : Out w w1 v bs) (ho : Only ks w1 w2) (hk : ∀ g,v.ownBlock = some g → g ∉ ks) : Out w w2 v bs := ownsRow_only h ho hk
theorem ownsRow_base {w : World} {base base' e size : Nat} {v : Value} {n : Nat} {xs : List Value} (h : w.ownsRow base e size v n xs) (hb : base' ≤ base) : w.ownsRow base' e size v n xs := by
 refine ⟨h.1,?_⟩
 rcases h.2 with hn | ⟨g,cap,cur,hv,hg,rest⟩
 ·exact .inl hn
 ·exact .inr ⟨g,cap,cur,hv,Nat.le_trans hb hg,rest⟩
theorem Out.start {w0 w w' : World} {v : Value} {bs : List UInt8} (h : Out w w' v bs) (hs : w0.heap.size ≤ w.heap.size) : Out w0 w' v bs := ownsRow_base h hs
theorem Out.fresh {w w' : World} {v : Value} {bs : List UInt8} (h : Out w w' v bs) : ∀ g,v.ownBlock = some g → w.heap.size ≤ g ∧ g < w'.heap.size := h.lt
theorem Out.read {w w' : World} {v : Value} {bs : List UInt8} (h : Out w w' v bs) : ∃ a c,v = .slice a bs.length c ∧ Bytes w' a bs ∧ bs.length ≤ c ∧ (a = none → c = 0) ∧ (∀ ad,a = some ad → w.heap.size ≤ ad.block) ∧ c ≤ maxLen ∧ (∀ ad,a = some ad → v.ownBlock = some ad.block) := by
 obtain ⟨a,c,rfl⟩ := own_slice h
 obtain ⟨h1,h2,h3,h4,h5,h6⟩ := Bytes.of_owns h
 refine ⟨a,c,rfl,h1,h3,h4,h5,h6,fun ad e => ?_⟩
 subst e
 rcases h.2 with ⟨hv,_⟩ | ⟨g,cap,cur,hv,_⟩
 ·cases hv
 ·simp only [Value.slice.injEq] at hv
  obtain ⟨e,_,_⟩ := hv
  cases e
  rfl
theorem Out.block {w w1 : World} {bs : List UInt8} (hs : w.heap.size ≤ w1.heap.size) (hl : bs.length ≤ maxLen) : Out w (w1.alloc (.cells (bs.map byteV).toArray 5)) (.slice (some ⟨w1.heap.size,0,none⟩) bs.length bs.length) bs := by
 refine ⟨by simp,.inr ⟨w1.heap.size,bs.length,(bs.map byteV).toArray,rfl,hs,heap_alloc_new w1 _,Nat.le_refl _,hl,by simp,?_⟩⟩
 simp [List.take_of_length_le]
theorem hs_same {w : World} {b i : Nat} {c : Array Value} {t : TypeId} {v : Value} (h : w.heap[b]? = some (.cells c t (0,0))) {c' : Array Value} (hc : c.setIfInBounds i v = c') : (w.setCell ⟨b,i,none⟩ v).heap[b]? = some (.cells c' t (0,0)) := by rw [← hc];exact heap_set_same h
theorem Only.heap {bs : List Nat} {w w' : World} {b : Nat} {o : Obj} (ho : Only bs w w') (h : w.heap[b]? = some o) (hb : b ∉ bs) : w'.heap[b]? = some o := by
 rw [ho.block b (Array.getElem?_eq_some_iff.1 h).1 hb];exact h
theorem heap_lt {w : World} {b : Nat} {o : Obj} (h : w.heap[b]? = some o) : b < w.heap.size := (Array.getElem?_eq_some_iff.1 h).1
theorem Only.cell {bs : List Nat} {w w' : World} {ad : Addr} {v : Value} (ho : Only bs w w') (h : w.cell? ad = some v) (hb : ad.block ∉ bs) : w'.cell? ad = some v := by
 rw [World.cell?_of_block (w := w) (ho.block _ (World.block_lt_of_cell? w _ h) hb)];exact h
def Slc (w : World) (ro : List Nat) (v : Value) (bs : List UInt8) : Prop :=
 ∃ a c,v = .slice a bs.length c ∧ Bytes w a bs ∧ bs.length ≤ c ∧ c ≤ maxLen ∧ (a = none → c = 0) ∧ ∀ x,a = some x → x.block ∈ ro
theorem Slc.of_only {w w' : World} {ro ks : List Nat} {v : Value} {bs : List UInt8} (h : Slc w ro v bs) (ho : Only ks w w') (hs : Sep ro ks) : Slc w' ro v bs := by
 obtain ⟨a,c,hv,hb,h1,h2,h3,h4⟩ := h
 exact ⟨a,c,hv,hb.of_only ho (.inr fun ad e => hs _ (h4 ad e)),h1,h2,h3,h4⟩
theorem Slc.more {w : World} {ro ro' : List Nat} {v : Value} {bs : List UInt8} (h : Slc w ro v bs) (hs : ∀ b,b ∈ ro → b ∈ ro') : Slc w ro' v bs := by
 obtain ⟨a,c,hv,hb,h1,h2,h3,h4⟩ := h
 exact ⟨a,c,hv,hb,h1,h2,h3,fun x e => hs _ (h4 x e)⟩
theorem Slc.nil (w : World) (ro : List Nat) : Slc w ro (.slice none 0 0) [] := ⟨none,0,rfl,⟨fun _ => rfl,fun ad e => by cases e⟩,by simp,by simp [maxLen],fun _ => rfl,fun _ e => by cases e⟩
def Blks (w : World) (ro : List Nat) (a : Option Addr) (bs : List M.Blk) : Prop :=
 ∀ k b,bs[k]? = some b → ∃ g v,a = some ⟨g,0,none⟩ ∧ g ∈ ro ∧ w.cell? ⟨g,k * 2,none⟩ = some (byteV b.number) ∧ w.cell? ⟨g,k * 2 + 1,none⟩ = some v ∧ Slc w ro v b.data
theorem Blks.of_only {w w' : World} {ro ks : List Nat} {a : Option Addr} {bs : List M.Blk} (h : Blks w ro a bs) (ho : Only ks w w') (hs : Sep ro ks) : Blks w' ro a bs := by
 intro k b hk
 obtain ⟨g,v,rfl,hg,c0,c1,hv⟩ := h k b hk
 exact ⟨g,v,rfl,hg,ho.cell c0 (hs g hg),ho.cell c1 (hs g hg),hv.of_only ho hs⟩
def Slcs (w : World) (ro : List Nat) (a : Option Addr) (bs : List (List UInt8)) : Prop :=
 ∀ k b,bs[k]? = some b → ∃ g v,a = some ⟨g,0,none⟩ ∧ g ∈ ro ∧ w.cell? ⟨g,k,none⟩ = some v ∧ Slc w ro v b
theorem Slcs.of_only {w w' : World} {ro ks : List Nat} {a : Option Addr} {bs : List (List UInt8)} (h : Slcs w ro a bs) (ho : Only ks w w') (hs : Sep ro ks) : Slcs w' ro a bs := by
 intro k b hk
 obtain ⟨g,v,rfl,hg,c0,hv⟩ := h k b hk
 exact ⟨g,v,rfl,hg,ho.cell c0 (hs g hg),hv.of_only ho hs⟩
theorem byte_ne {x : UInt8} {n : UInt8} (h : x ≠ n) : ((x.toNat : Int) == (n.toNat : Int)) = false := by
 have : x.toNat ≠ n.toNat := fun e => h (UInt8.toNat_inj.1 e)
 simp;omega
theorem size_any (x : UInt8) (c : Bool) (w : World) : Calls Tryz.prog 260 #[byteV x,.bool c] w fun e w' => e = .returned (.int .i64 (M.sizeB x c)) ∧ w = w' := by
 by_cases h1 : x = 1
 ·subst h1
  cases c
  all_goals
   go_enter Tryz.func260,Tryz.ntmps260
   go_wp2
   go_ret
   exact ⟨rfl,rfl⟩
 ·by_cases h2 : x = 2
  ·subst h2
   cases c
   all_goals
    go_enter Tryz.func260,Tryz.ntmps260
    go_wp2
    go_ret
    exact ⟨rfl,rfl⟩
  ·have e1 : ((x.toNat : Int) == 1) = false := byte_ne h1
   have e2 : ((x.toNat : Int) == 2) = false := byte_ne h2
   have hs : M.sizeB x c = 0 := by simp [M.sizeB,h1,h2]
   have HS := LH hs
   clear hs h1 h2
   go_enter Tryz.func260,Tryz.ntmps260
   go_wp2
   go_ret
   exact ⟨by rw [HS.out];rfl,rfl⟩
theorem out_one (w w1 : World) (x : UInt8) (a : Int) (hx : (x.toNat : Int) = a) (hs : w.heap.size ≤ w1.heap.size) : Out w (w1.alloc (.cells #[.int .u8 a] 5)) (.slice (some ⟨w1.heap.size,0,none⟩) 1 1) [x] := by
 subst hx
 exact Out.block (bs := [x]) hs (by simp [maxLen])
theorem out_two (w w1 : World) (x y : UInt8) (a b : Int) (hx : (x.toNat : Int) = a) (hy : (y.toNat : Int) = b) (hs : w.heap.size ≤ w1.heap.size) : Out w (w1.alloc (.cells #[.int .u8 a,.int .u8 b] 5)) (.slice (some ⟨w1.heap.size,0,none⟩) 2 2) [x,y] := by
 subst hx hy
 exact Out.block (bs := [x,y]) hs (by simp [maxLen])
theorem trailer_any (a : Option Addr) (bs : List UInt8) (n c : Nat) (k : Bool) (w : World) (hb : Bytes w a bs) (hn : bs.length = n) (hN : n ≤ 9223372036854775807) :
  Calls Tryz.prog 235 #[.slice a n c,.bool k] w fun e w' => ∃ v,e = .returned v ∧ Out w w' v (M.trailer bs k) ∧ Only [] w w' := by
 have HB := LH hb
 have HN := LH hn
 clear hb hn
 cases k with
 | false =>
  go_enter Tryz.func235,Tryz.ntmps235
  go_wp2_with (first | (go_at_call 236;refine (check_any a bs n c _ HB.out HN.out hN).mono ?_;rintro e w' ⟨rfl,rfl⟩))
  go_ret
  exact ⟨_,rfl,out_one w w _ _ rfl (Nat.le_refl _),(Only.refl [] w).alloc _⟩
 | true =>
  have hl := crc_lt bs
  obtain ⟨r,hr⟩ : ∃ r,r = M.crc bs := ⟨_,rfl⟩
  have HR := LH hr
  have hcall := fun w' (h : Bytes w' a bs) => crc_any a bs n c w' h HN.out hN
  rw [← hr] at hl hcall
  have HC := LH hcall
  clear hr hcall
  go_enter Tryz.func235,Tryz.ntmps235
  go_wp2_with (first | (go_at_call 237;refine (HC.out _ HB.out).mono ?_;rintro e w' ⟨rfl,rfl⟩))
  go_ret
  have e1 := HR.out
  exact ⟨_,rfl,out_two w w _ _ _ _ (by rw [UInt8.toNat_ofNat',← e1];omega) (by rw [UInt8.toNat_ofNat',← e1];omega) (Nat.le_refl _),(Only.refl [] w).alloc _⟩
theorem out_three (w w1 : World) (x y z : UInt8) (a b c : Int) (hx : (x.toNat : Int) = a) (hy : (y.toNat : Int) = b) (hz : (z.toNat : Int) = c) (hs : w.heap.size ≤ w1.heap.size) : Out w (w1.alloc (.cells #[.int .u8 a,.int .u8 b,.int .u8 c] 5)) (.slice (some ⟨w1.heap.size,0,none⟩) 3 3) [x,y,z] := by
 subst hx hy hz
 exact Out.block (bs := [x,y,z]) hs (by simp [maxLen])
def wholeB (lead : UInt8) (b : M.Blk) (k : Bool) : List UInt8 := [lead,b.number,255 - b.number] ++ b.data ++ M.trailer b.data k
theorem not_u8 (x : UInt8) : bits .xor .u8 IntKind.u8.max (x.toNat : Int) = ((255 - x).toNat : Int) := by
 have h : ∀ n : Fin 256,bits .xor .u8 IntKind.u8.max ((n.val : Nat) : Int) = ((255 - UInt8.ofNat n.val).toNat : Int) := by decide +kernel
 have := h ⟨x.toNat,x.toNat_lt⟩
 simpa using this
theorem make_case (lead : UInt8) (N : Nat) (hcase : (lead = 1 ∧ N = 128) ∨ (lead = 2 ∧ N = 1024)) (num : UInt8) (d : List UInt8) (a : Option Addr) (c : Nat) (k : Bool) (w : World) (hb : Bytes w a d) (hn : d.length = N) (hc : a = none → c = 0) :
  Calls Tryz.prog 234 #[.agg #[byteV num,.slice a N c],.bool k] w fun e w' => ∃ v,e = .returned (.tuple #[v,.bool true]) ∧ Out w w' v (wholeB lead ⟨num,d⟩ k) ∧ Only [] w w' := by
 have HB := LH hb
 have HN := LH hn
 have HC := LH hc
 clear hb hn hc
 have hnn := not_u8 num
 rcases hcase with ⟨rfl,rfl⟩ | ⟨rfl,rfl⟩
 ·have ho3 : Out w ((w.alloc (.cells #[byteV num,.slice a 128 c] 234)).alloc (.cells #[.int .u8 1,byteV num,.int .u8 (bits .xor .u8 IntKind.u8.max (num.toNat : Int))] 5)) (.slice (some ⟨w.heap.size + 1,0,none⟩) 3 3) [1,num,255 - num] := by
   have := out_three w (w.alloc (.cells #[byteV num,.slice a 128 c] 234)) 1 num (255 - num) 1 num.toNat (bits .xor .u8 IntKind.u8.max (num.toNat : Int)) rfl rfl hnn.symm (by simp)
   simpa using this
  have H3 := LH ho3
  clear ho3 hnn
  go_enter Tryz.func234,Tryz.ntmps234
  go_wp2_with (at_builtin;go_loud (refine wpList_appS _ rfl (.tmp 21) (.tmp 23) rfl w.heap.size _ 3 [1,num,255 - num] rfl H3.out a 128 c d rfl ((HB.out.of_only ((Only.refl [] w).alloc _) (.inr (by intro ad e;simp))).of_only ((Only.refl [] _).alloc _) (.inr (by intro ad e;simp))) HN.out HC.out ([1,num,255 - num] ++ d) rfl 131 rfl (by omega) (by simp;omega) (by omega) ?_))
  intro g cp w1 e1 e2 e3 e4 e5 e6
  have ho1 : Only [] w w1 := by
   refine (((Only.refl [] w).alloc _).alloc _).grown e2 (fun b hb => .inr ?_)
   simp [Value.ownBlock] at hb
   omega
  have hb1 : Bytes w1 a d := HB.out.of_only ho1 (.inr (by intro ad e;simp))
  have hc1 : w1.cell? ⟨w.heap.size,1,none⟩ = some (.slice a 128 c) := by
   rw [World.cell?_of_block (e2.block w.heap.size (by simp;omega) (by simp [Value.ownBlock]))]
   rw [World.cell?_alloc_past _ _ _ (by simp),World.cell?_alloc_at _ _ _ _ rfl]
   rfl
  have HW := LH (AI e1 (AI ho1 (AI hb1 (AI e3 e4))))
  have hsz1 := ho1.size
  clear e1 e2 ho1 hb1 e3 e4
  go_wp2_with (first | (go_at_call 235;refine (trailer_any a d 128 c k _ HW.out.2.2.1 HN.out (by omega)).mono ?_))
  rintro e w2 ⟨v,rfl,ht,ho2⟩
  obtain ⟨at_,ct,rfl,t1,t2,t3,t4,t5,t6⟩ := ht.read
  have hlt : (M.trailer d k).length ≤ 2 := by unfold M.trailer;split <;> simp
  have hlp : 0 < (M.trailer d k).length := by unfold M.trailer;split <;> simp
  have HT := LH (AI ht (AI ho2 (AI t1 t3)))
  have hsz2 := ho2.size
  clear ht ho2 t1 t3 t4 t6
  go_wp2_with (at_builtin;refine wpList_app _ rfl (.tmp 25) (.tmp 29) rfl w.heap.size _ 131 ([1,num,255 - num] ++ d) rfl (ownsRow_only HW.out.1 HT.out.2.1 (by simp)) at_ (M.trailer d k).length ct (M.trailer d k) rfl HT.out.2.2.1 rfl HT.out.2.2.2 _ rfl _ rfl (by omega) (by omega) ?_)
  intro v' w3 q1 q2
  have hsz3 := q2.size
  have HQ := LH (AI q1 q2)
  clear q1 q2
  go_wp2_with fail
  go_ret2
  refine ⟨_,rfl,?_,?_⟩
  ·have h := HQ.out.1
   unfold Out
   have e : (wholeB 1 ⟨num,d⟩ k).length = 131 + (M.trailer d k).length := by simp [wholeB,HN.out];omega
   have e2 : (wholeB 1 ⟨num,d⟩ k).map byteV = byteV 1 :: byteV num :: byteV (255 - num) :: (d.map byteV ++ (M.trailer d k).map byteV) := by simp [wholeB]
   rw [e,e2]
   exact h
  ·refine (HW.out.2.1.trans HT.out.2.1).grown HQ.out.2 (fun b hb => .inr ?_)
   simp [Value.ownBlock] at hb
   have := HW.out.2.2.2.1
   omega
 ·have ho3 : Out w ((w.alloc (.cells #[byteV num,.slice a 1024 c] 234)).alloc (.cells #[.int .u8 2,byteV num,.int .u8 (bits .xor .u8 IntKind.u8.max (num.toNat : Int))] 5)) (.slice (some ⟨w.heap.size + 1,0,none⟩) 3 3) [2,num,255 - num] := by
   have := out_three w (w.alloc (.cells #[byteV num,.slice a 1024 c] 234)) 2 num (255 - num) 2 num.toNat (bits .xor .u8 IntKind.u8.max (num.toNat : Int)) rfl rfl hnn.symm (by simp)
   simpa using this
  have H3 := LH ho3
  clear ho3 hnn
  go_enter Tryz.func234,Tryz.ntmps234
  go_wp2_with (at_builtin;go_loud (refine wpList_appS _ rfl (.tmp 21) (.tmp 23) rfl w.heap.size _ 3 [2,num,255 - num] rfl H3.out a 1024 c d rfl ((HB.out.of_only ((Only.refl [] w).alloc _) (.inr (by intro ad e;simp))).of_only ((Only.refl [] _).alloc _) (.inr (by intro ad e;simp))) HN.out HC.out ([2,num,255 - num] ++ d) rfl 1027 rfl (by omega) (by simp;omega) (by omega) ?_))
  intro g cp w1 e1 e2 e3 e4 e5 e6
  have ho1 : Only [] w w1 := by
   refine (((Only.refl [] w).alloc _).alloc _).grown e2 (fun b hb => .inr ?_)
   simp [Value.ownBlock] at hb
   omega
  have hb1 : Bytes w1 a d := HB.out.of_only ho1 (.inr (by intro ad e;simp))
  have hc1 : w1.cell? ⟨w.heap.size,1,none⟩ = some (.slice a 1024 c) := by
   rw [World.cell?_of_block (e2.block w.heap.size (by simp;omega) (by simp [Value.ownBlock]))]
   rw [World.cell?_alloc_past _ _ _ (by simp),World.cell?_alloc_at _ _ _ _ rfl]
   rfl
  have HW := LH (AI e1 (AI ho1 (AI hb1 (AI e3 e4))))
  have hsz1 := ho1.size
  clear e1 e2 ho1 hb1 e3 e4
  go_wp2_with (first | (go_at_call 235;refine (trailer_any a d 1024 c k _ HW.out.2.2.1 HN.out (by omega)).mono ?_))
  rintro e w2 ⟨v,rfl,ht,ho2⟩
  obtain ⟨at_,ct,rfl,t1,t2,t3,t4,t5,t6⟩ := ht.read
  have hlt : (M.trailer d k).length ≤ 2 := by unfold M.trailer;split <;> simp
  have hlp : 0 < (M.trailer d k).length := by unfold M.trailer;split <;> simp
  have HT := LH (AI ht (AI ho2 (AI t1 t3)))
  have hsz2 := ho2.size
  clear ht ho2 t1 t3 t4 t6
  go_wp2_with (at_builtin;refine wpList_app _ rfl (.tmp 25) (.tmp 29) rfl w.heap.size _ 1027 ([2,num,255 - num] ++ d) rfl (ownsRow_only HW.out.1 HT.out.2.1 (by simp)) at_ (M.trailer d k).length ct (M.trailer d k) rfl HT.out.2.2.1 rfl HT.out.2.2.2 _ rfl _ rfl (by omega) (by omega) ?_)
  intro v' w3 q1 q2
  have hsz3 := q2.size
  have HQ := LH (AI q1 q2)
  clear q1 q2
  go_wp2_with fail
  go_ret2
  refine ⟨_,rfl,?_,?_⟩
  ·have h := HQ.out.1
   unfold Out
   have e : (wholeB 2 ⟨num,d⟩ k).length = 1027 + (M.trailer d k).length := by simp [wholeB,HN.out];omega
   have e2 : (wholeB 2 ⟨num,d⟩ k).map byteV = byteV 2 :: byteV num :: byteV (255 - num) :: (d.map byteV ++ (M.trailer d k).map byteV) := by simp [wholeB]
   rw [e,e2]
   exact h
  ·refine (HW.out.2.1.trans HT.out.2.1).grown HQ.out.2 (fun b hb => .inr ?_)
   simp [Value.ownBlock] at hb
   have := HW.out.2.2.2.1
   omega
structure Seg where
 m : Nat
 f : Nat
 s : Nat
def segCells : List Seg → List Value
 | [] => []
 | x :: r => .int .i64 x.m :: .int .i64 x.f :: .int .i64 x.s :: segCells r
theorem segCells_append (a b : List Seg) : segCells (a ++ b) = segCells a ++ segCells b := by
 induction a with
 | nil => rfl
 | cons x r ih => simp [segCells,ih]
theorem segCells_length (a : List Seg) : (segCells a).length = a.length * 3 := by
 induction a with
 | nil => rfl
 | cons x r ih => simp [segCells,ih];omega
theorem segCells_get (a : List Seg) (k : Nat) (x : Seg) (h : a[k]? = some x) : (segCells a)[k * 3]? = some (.int .i64 x.m) ∧ (segCells a)[k * 3 + 1]? = some (.int .i64 x.f) ∧ (segCells a)[k * 3 + 2]? = some (.int .i64 x.s) := by
 induction a generalizing k with
 | nil => simp at h
 | cons y r ih =>
  cases k with
  | zero =>
   simp at h
   subst h
   simp [segCells]
  | succ k =>
   have h' := ih k (by simpa using h)
   have e : (k + 1) * 3 = k * 3 + 1 + 1 + 1 := by omega
   rw [e]
   simpa [segCells] using h'
theorem segCells_set (a : List Seg) (m f s : Nat) (n : Int) : (segCells a ++ [Value.int .i64 m,Value.int .i64 f,Value.int .i64 s]).set (a.length * 3 + 2) (Value.int .i64 n) = segCells a ++ [Value.int .i64 m,Value.int .i64 f,Value.int .i64 n] := by
 have h : a.length * 3 + 2 = (segCells a).length + 2 := by rw [segCells_length]
 rw [h]
 rw [List.set_append_right _ _ (by omega)]
 congr 1
 have : (segCells a).length + 2 - (segCells a).length = 2 := by omega
 rw [this]
 rfl
structure Demuxed (w : World) (D base : Nat) (v : Value) (mode n : Nat) (ss : List Seg) : Prop where
 str : w.heap[D]? = some (.cells #[.int .i64 mode,.int .i64 n,v] 152 (0,0))
 own : w.ownsRow base 243 3 v ss.length (segCells ss)
 lt : D < base
 le : base ≤ w.heap.size
 nle : n ≤ 1099511627776
 cnt : ss.length ≤ n
 fit : ∀ x,x ∈ ss → x.f + x.s ≤ n
theorem Demuxed.of_only {w w' : World} {D base : Nat} {v : Value} {mode n : Nat} {ss : List Seg} {bs : List Nat} (h : Demuxed w D base v mode n ss) (ho : Only bs w w') (hD : D ∉ bs) (hv : ∀ g,v.ownBlock = some g → g ∉ bs) : Demuxed w' D base v mode n ss :=
 ⟨by rw [ho.block D (Array.getElem?_eq_some_iff.1 h.str).1 hD];exact h.str,ownsRow_only h.own ho hv,h.lt,Nat.le_trans h.le ho.size,h.nle,h.cnt,h.fit⟩
theorem Demuxed.drewN {w : World} {D base : Nat} {v : Value} {mode n : Nat} {ss : List Seg} (h : Demuxed w D base v mode n ss) (k : Nat) : Demuxed (w.drewN k) D base v mode n ss :=
 h.of_only (only_drewN [] w k) (by simp) (by simp)
theorem Demuxed.setMode {w : World} {D base : Nat} {v : Value} {mode n : Nat} {ss : List Seg} (h : Demuxed w D base v mode n ss) (m : Nat) : Demuxed (w.setCell ⟨D,0,none⟩ (.int .i64 m)) D base v m n ss := by
 refine ⟨?_,ownsRow_only h.own (only_set w D 0 _) (fun g hg => ?_),h.lt,by simpa using h.le,h.nle,h.cnt,h.fit⟩
 ·rw [heap_set_same h.str];simp
 ·have := h.own.lt g hg
  have := h.lt
  simp;omega
theorem Demuxed.blk {w : World} {D base : Nat} {v : Value} {mode n : Nat} {ss : List Seg} (h : Demuxed w D base v mode n ss) : ∀ g,v.ownBlock = some g → base ≤ g ∧ g < w.heap.size := h.own.lt
theorem demuxed_new (w : World) (m : Nat) : Demuxed (w.alloc (.cells #[.int .i64 m,.int .i64 0,.slice none 0 0] 152)) w.heap.size (w.heap.size + 1) (.slice none 0 0) m 0 [] :=
 ⟨heap_alloc_new w _,World.ownsRow_nil _ _ _ _,by omega,by simp,by omega,by simp,by simp⟩
theorem Tryz.info243 : (Tryz.prog.info? 243).map (fun i => (i.zero,i.size,i.bytes)) = some (some (.agg #[.int .i64 0,.int .i64 0,.int .i64 0]),3,24) := by kernel_rfl
def fitM (m : Int) : Nat := if m = 1 then 1 else if m = 2 then 2 else 0
theorem switch_any (D base : Nat) (v : Value) (mode n : Nat) (ss : List Seg) (m : Int) (w : World) (h : Demuxed w D base v mode n ss) :
  Calls Tryz.prog 53 #[.pointer (some ⟨D,0,none⟩),.int .i64 m] w fun e w' => e = .returned (.tuple #[]) ∧ Demuxed w' D base v (fitM m) n ss ∧ Only [D] w w' := by
 have c0 : w.cell? ⟨D,0,none⟩ = some (.int .i64 mode) := cell_at h.str rfl
 have f0 : w.frozen? ⟨D,0,none⟩ = false := free_at h.str
 have H := LH h
 clear h
 unfold fitM
 by_cases c1 : m = 1
 ·subst c1
  rw [if_pos rfl]
  go_enter Tryz.func53,Tryz.ntmps53
  go_wp2
  go_end0
  exact ⟨rfl,H.out.setMode 1,only_set w D 0 _⟩
 ·by_cases c2 : m = 2
  ·subst c2
   rw [if_neg c1,if_pos rfl]
   go_enter Tryz.func53,Tryz.ntmps53
   go_wp2
   go_end0
   exact ⟨rfl,H.out.setMode 2,only_set w D 0 _⟩
  ·rw [if_neg c1,if_neg c2]
   have d1 : (m == 1) = false := by simpa using c1
   have d2 : (m == 2) = false := by simpa using c2
   have d3 : (m != 1) = true := by simpa using c1
   have d4 : (m != 2) = true := by simpa using c2
   clear c1 c2
   go_enter Tryz.func53,Tryz.ntmps53
   go_wp2
   go_end0
   exact ⟨rfl,H.out.setMode 0,only_set w D 0 _⟩
theorem dof_any (m : Int) (w : World) :
  Calls Tryz.prog 41 #[.int .i64 m] w fun e w' => e = .returned (.pointer (some ⟨w.heap.size,0,none⟩)) ∧ Demuxed w' w.heap.size (w.heap.size + 1) (.slice none 0 0) (fitM m) 0 [] ∧ Only [] w w' := by
 have hd := demuxed_new w 0
 go_enter Tryz.func41,Tryz.ntmps41
 go_wp2_with fail
 refine (switch_any _ _ _ _ _ _ m _ hd).mono ?_
 rintro e w1 ⟨rfl,hd1,ho1⟩
 have H1 := LH hd1
 have HO := LH ho1
 clear hd hd1 ho1
 go_wp2
 go_ret
 refine ⟨rfl,H1.out,?_⟩
 have ho := HO.out
 exact ⟨ho.os,ho.tape,ho.output,by have := ho.size;simp at this;omega,fun k hk _ => (ho.block k (by simp;omega) (by simp;omega)).trans (Below.heap_alloc _ _ _ hk)⟩
def fitI (n : Int) : Int := if n ≤ 0 then 0 else if n ≤ 1099511627776 then n else 1099511627776
def capI (n : Int) : Int := if n ≤ 1099511627776 then n else 1099511627776
theorem fitI_bd (n : Int) : 0 ≤ fitI n ∧ fitI n ≤ 1099511627776 := by unfold fitI;split <;> (try split) <;> omega
theorem capI_bd (n : Int) (h : 0 ≤ n) : 0 ≤ capI n ∧ capI n ≤ 1099511627776 := by unfold capI;split <;> omega
theorem fl_most : floatOfInt .f64 1099511627776 = 4787326403894837248 := by decide
theorem run_min_fl {P : Program} (w : World) (ts : Array TypeId) (t : TypeId) (a : Int) (ha : 0 ≤ a) (h : a < 9007199254740992) : (Builtin.min_ ts t #[.float .f64 (floatOfInt .f64 a),.float .f64 4787326403894837248]).run P w = .ok (.float .f64 (floatOfInt .f64 (capI a))) w := by
 have ho := order_fl a 1099511627776 ha (by omega) h (by omega)
 have hn := neg_fl a ha h
 rw [← fl_most]
 unfold capI
 have ho' : FloatKind.f64.format.order (floatOfInt .f64 a) (floatOfInt .f64 1099511627776) = some (if a < 1099511627776 then .lt else if a = 1099511627776 then .eq else .gt) := ho
 have hn' : (FloatKind.f64.decode (floatOfInt .f64 a)).neg = false := hn
 rcases Int.lt_trichotomy a 1099511627776 with c | c | c
 ·rw [if_pos c] at ho'
  rw [if_pos (by omega)]
  simp [Builtin.min_,Builtin.min2,ho']
 ·rw [if_neg (by omega),if_pos c] at ho'
  rw [if_pos (by omega)]
  simp [Builtin.min_,Builtin.min2,ho',hn'];rw [c]
 ·rw [if_neg (by omega),if_neg (by omega)] at ho'
  rw [if_neg (by omega)]
  simp [Builtin.min_,Builtin.min2,ho']
theorem whole_any (n : Int) (w : World) :
  Calls Tryz.prog 134 #[.int .i64 n] w fun e w' => e = .returned (.float .f64 (floatOfInt .f64 (fitI n))) ∧ w = w' := by
 unfold fitI
 by_cases c1 : n ≤ 0
 ·rw [if_pos c1]
  go_enter Tryz.func134,Tryz.ntmps134
  go_wp2
  go_ret
  exact ⟨rfl,rfl⟩
 ·by_cases c2 : n ≤ 1099511627776
  ·rw [if_neg c1,if_pos c2]
   go_enter Tryz.func134,Tryz.ntmps134
   go_wp2
   go_ret
   exact ⟨rfl,rfl⟩
  ·rw [if_neg c1,if_neg c2]
   go_enter Tryz.func134,Tryz.ntmps134
   go_wp2
   go_ret
   exact ⟨rfl,rfl⟩
theorem add_any (a b n m : Int) (ha : 0 ≤ a) (h : a ≤ 1099511627776) (hb : 0 ≤ b) (h' : b ≤ 1099511627776) (w : World) :
  Calls Tryz.prog 116 #[.complex .f64 (floatOfInt .f64 a) (floatOfInt .f64 b),.int .i64 n,.int .i64 m] w fun e w' =>
   e = .returned (.complex .f64 (floatOfInt .f64 (capI (a + fitI n))) (floatOfInt .f64 (capI (b + fitI m)))) ∧ w = w' := by
 have hn := fitI_bd n
 have hm := fitI_bd m
 have h1 : ∀ t w,(binOp .add t (.float .f64 (floatOfInt .f64 a)) (.float .f64 (floatOfInt .f64 (fitI n)))).run Tryz.prog w = .ok (.float .f64 (floatOfInt .f64 (a + fitI n))) w := fun t w => run_float_arith w .add t .f64 _ _ _ (add_fl _ _ ha hn.1 (by omega))
 have h2 : ∀ t w,(binOp .add t (.float .f64 (floatOfInt .f64 b)) (.float .f64 (floatOfInt .f64 (fitI m)))).run Tryz.prog w = .ok (.float .f64 (floatOfInt .f64 (b + fitI m))) w := fun t w => run_float_arith w .add t .f64 _ _ _ (add_fl _ _ hb hm.1 (by omega))
 have h3 := fun (w : World) ts t => run_min_fl (P := Tryz.prog) w ts t (a + fitI n) (by omega) (by omega)
 have h4 := fun (w : World) ts t => run_min_fl (P := Tryz.prog) w ts t (b + fitI m) (by omega) (by omega)
 go_enter Tryz.func116,Tryz.ntmps116
 go_wp2_with (first | (go_at_call 134;refine (whole_any _ _).mono ?_;rintro e w' ⟨rfl,rfl⟩))
 go_ret
 exact ⟨rfl,rfl⟩
end Go.Proofs.YtplaamfoeaaaiaaGreatDoor
