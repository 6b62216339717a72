/- A part of the proofs of the laws of lifelinetop (TopNever, TopLost, TopRoom): contracts of functions that these laws reach. No condition of its own. -/
import Derived.Test.YtplaamfoeaaaiaaGreatDoorCards
import Derived.Test.YtplaamfoeaaaiaaGreatDoorK02
import Derived.Test.YtplaamfoeaaaiaaGreatDoorK03
import Derived.Test.YtplaamfoeaaaiaaGreatDoorK05
import Derived.Test.YtplaamfoeaaaiaaGreatDoorK06
import Derived.Test.YtplaamfoeaaaiaaGreatDoorK09
import Derived.Test.YtplaamfoeaaaiaaGreatDoorK16
import Derived.Test.YtplaamfoeaaaiaaGreatDoorK19
import Derived.Test.YtplaamfoeaaaiaaGreatDoorK24
import Derived.Test.YtplaamfoeaaaiaaGreatDoorK25
import Derived.Test.YtplaamfoeaaaiaaGreatDoorK26
import Derived.Test.YtplaamfoeaaaiaaGreatDoorK31
import Derived.Test.YtplaamfoeaaaiaaGreatDoorTie
import Derived.WalkKit
import Derived.ProofKit
import Derived.OpenShut
import Derived.Below
import Derived.Deep.Slices
import Derived.Deep.DeepHandedRow
import Derived.Deep.DeepWitnessRowRef
import Derived.Lib.LaidTab
import Derived.LaidMore
import Derived.LaidHandle
import Derived.LaidSub
import Derived.MakeChecks
import Derived.Deep.QuietTactic
import Derived.BigQuiet
set_option maxRecDepth 100000
set_option maxHeartbeats 8000000
set_option linter.unusedVariables false
namespace Go.Proofs.YtplaamfoeaaaiaaGreatDoor.lai
open Go.ChangeShapes Go.WideShapes Go.ChangeAt Go.RowKit
theorem own : ownKnob Tryz.prog.godebug = none := by kernel_rfl
theorem laidOut : laidOutB Tryz.prog = true := by kernel_rfl
abbrev laidL : List (String × DataW Unit) := Rows.topNeverRow.laid
theorem gPow : Tryz.prog.globalNamed "internal/strconv.uint64pow10" = some 1 := by kernel_rfl
theorem gTab : Tryz.prog.globalNamed "math/bits.deBruijn64tab" = some 3 := by kernel_rfl
theorem tPow : (Tryz.prog.globals[1]?).map (·.type) = some 185 := by kernel_rfl
theorem tTab : (Tryz.prog.globals[3]?).map (·.type) = some 258 := by kernel_rfl
def tab64 : List Int := [0,1,56,2,57,49,28,3,61,58,42,50,38,29,17,4,62,47,59,36,45,43,51,22,53,39,33,30,24,18,12,5,63,55,48,27,60,41,37,16,46,35,44,21,52,32,23,11,54,26,40,15,34,20,31,10,25,14,19,9,13,8,7,6]
theorem only_pow : laidL.filter (fun x => x.1 == "internal/strconv.uint64pow10") = [("internal/strconv.uint64pow10",Lib.tabData .u64 Lib.pow10Tab)] := by kernel_rfl
theorem only_tab : laidL.filter (fun x => x.1 == "math/bits.deBruijn64tab") = [("math/bits.deBruijn64tab",Lib.tabData .u8 tab64)] := by kernel_rfl
theorem pow_is {W : World} (h : laidMetH Tryz.prog laidL W) : Lib.TabIs Tryz.prog W "internal/strconv.uint64pow10" .u64 Lib.pow10Tab := by
 have h1 := h.filter (fun x => x.1 == "internal/strconv.uint64pow10")
 rw [only_pow,MakeChecks.laidMetH_plain _ _ _ (by kernel_rfl)] at h1
 exact Lib.tabIs_of_head (rest := []) gPow tPow Tryz.underlying185 (by kernel_rfl : Tryz.prog.underlying 144 = some (.int .u64)) (by kernel_rfl) (by kernel_rfl) h1
theorem tab_is {W : World} (h : laidMetH Tryz.prog laidL W) : Lib.TabIs Tryz.prog W "math/bits.deBruijn64tab" .u8 tab64 := by
 have h1 := h.filter (fun x => x.1 == "math/bits.deBruijn64tab")
 rw [only_tab,MakeChecks.laidMetH_plain _ _ _ (by kernel_rfl)] at h1
 exact Lib.tabIs_of_head (rest := []) gTab tTab Tryz.underlying258 Tryz.underlying5 (by kernel_rfl) (by kernel_rfl) h1
theorem int_of_shape {P : Program} {w : World} {g : Nat} {t : TypeId} {k : IntKind} {zero : Array Value} (h : w.ShapedOpen P) (hg : g < P.globals.size) (h0 : ((begin P (fun _ _ => 0) default).world.heap[g]?).bind Obj.row? = some (zero,t)) (hz : zero.size = 1) (hb : P.buildable t = true) (hc : P.cellTypes P.depth t = some [t]) (hu : P.underlying t = some (.int k)) : ∃ p,w.cell? ⟨g,0,none⟩ = some (.int k p) := by
 obtain ⟨cs,hh,hs,hr⟩ := h.1 g zero t hg h0
 obtain ⟨ts,hts,_,hall⟩ := hr hb
 rw [hc] at hts
 cases hts
 have h1 : 0 < cs.size := by omega
 obtain ⟨u,hu',hok⟩ := hall 0 cs[0] (by simp [h1])
 have : u = t := by simpa using hu'.symm
 subst this
 have hcell : w.cell? ⟨g,0,none⟩ = some cs[0] := by simp [World.cell?,hh,h1]
 rw [hcell]
 unfold Cell.ok at hok
 rw [hu] at hok
 cases hv : cs[0] <;> rw [hv] at hok <;> first | (obtain ⟨rfl,_⟩ := hok;exact ⟨_,rfl⟩) | (simp at hok)
theorem max_is {W : World} (h : W.ShapedOpen Tryz.prog) : ∃ m,W.cell? ⟨4,0,none⟩ = some (.int .i64 m) :=
 int_of_shape (zero := #[.int .i64 0]) h (of_decide_eq_true (by kernel_rfl)) (by kernel_rfl) rfl (by kernel_rfl) (by kernel_rfl) Tryz.underlying3
theorem glob_is {W : World} (h : laidMetH Tryz.prog laidL W) (hs : W.ShapedOpen Tryz.prog) : Glob W := by
 refine ⟨⟨?_,?_⟩,max_is hs,pow_is h⟩
 ·exact (tab_is h).cell gTab 15 (by decide)
 ·exact (tab_is h).cell gTab 7 (by decide)
def firstCells : Array Value := match (Go.Pinned.utf8First : DataW Unit) with
 | .agg l => (l.map fun | .lit (.int k z) => Value.int k z | _ => .int .u8 0).toArray
 | _ => #[]
noncomputable def laidWorld (os : Os) : World :=
 { World.doorLaid Tryz.prog 79 os with heap := (World.doorLaid Tryz.prog 79 os).heap.modify 7 fun
   | .cells _ t frozen => .cells firstCells t frozen
   | o => o }
theorem laid_met (os : Os) (args : Array Value) : laidMetH Tryz.prog laidL ((laidWorld os).forCall (fun _ _ => 0) ⟨#[],args,[]⟩).memory :=
 laidMetH_of_parts (laidMet_of_run' 8 (by kernel_rfl) (by kernel_rfl)) (by kernel_rfl)
theorem only_below {w w' : World} (h : Only [] w w') : Below w.heap.size w w' := ⟨h.os,h.tape,h.output,h.size,fun k hk => h.block k hk (by simp)⟩
end Go.Proofs.YtplaamfoeaaaiaaGreatDoor.lai
namespace Go.Proofs.YtplaamfoeaaaiaaGreatDoor
open Go.RowKit
theorem hm_len : (M.headerMake fb 100).length = 128 := by decide +kernel
theorem he_len : M.headerEmpty.length = 128 := by decide +kernel
theorem out_form {w1 w2 : World} {v : Value} {h : List UInt8} (hv : Out w1 w2 v h) (hl : h.length = 128) : ∃ q c,v = .slice (some ⟨q,0,none⟩) 128 c := by
 obtain ⟨q,c,e,_,_⟩ := row_block hv (by omega : 0 < h.length)
 rw [hl] at e
 exact ⟨q,c,e⟩
theorem blks_one {w1 w2 : World} {v : Value} {h : List UInt8} {g : Nat} (hv : Out w1 w2 v h) (hl : h.length = 128) (hg : w2.heap[g]? = some (.cells #[byteV 0,v] 234 (0,0))) : Blks w2 (g :: ownL v) (some ⟨g,0,none⟩) [⟨0,h⟩] ∧ Live w2 (g :: ownL v) := by
 obtain ⟨q,c,rfl,h1,h2⟩ := row_block hv (by omega : 0 < h.length)
 obtain ⟨a',c',e,rb,rl,rn,rx⟩ := hv.read
 cases e
 refine ⟨fun k b hk => ?_,fun b hb => ?_⟩
 ·match k,hk with
  | 0,hk =>
   simp at hk
   subst hk
   exact ⟨g,_,rfl,by simp,cell_at hg rfl,cell_at hg rfl,_,c,rfl,rb,rl,rx.2.1,rn,fun x e => by cases e;simp [ownL,Value.ownBlock]⟩
 ·simp only [ownL,Value.ownBlock,List.mem_cons] at hb
  rcases hb with rfl | hb
  ·exact heap_lt hg
  ·simp at hb;subst hb;exact h2
theorem parts_slcs {w : World} {base : Nat} {ro : List Nat} {v : Value} {ps : List (List UInt8)} (h : Parts w base ro v ps) (hp : 0 < ps.length) : ∃ g c,v = .slice (some ⟨g,0,none⟩) ps.length c ∧ Slcs w (g :: ro) (some ⟨g,0,none⟩) ps ∧ Live w (g :: ro) := by
 obtain ⟨us,h1,h2⟩ := h.own
 obtain ⟨g,c,rfl,b1,b2⟩ := row_block h1 hp
 refine ⟨g,c,rfl,fun k b hk => ?_,fun b hb => ?_⟩
 ·obtain ⟨u,e1,e2⟩ := h2 k b hk
  have hkl := (List.getElem?_eq_some_iff.1 hk).1
  obtain ⟨a,c',q0,q1,q2,q3,q4,q5⟩ := e2
  exact ⟨g,u,rfl,by simp,(h1.cellAt k (by omega)).trans e1,a,c',q0,q1,q2,q3,q4,fun x e => List.mem_cons_of_mem _ (q5 x e)⟩
 ·rcases List.mem_cons.1 hb with rfl | hb
  ·exact b2
  ·exact (h.lo b hb).2
theorem blkrow_blks {w : World} {base : Nat} {ro : List Nat} {v : Value} {bs : List M.Blk} (h : BlkRow w base ro v bs) (hp : 0 < bs.length) : ∃ g c,v = .slice (some ⟨g,0,none⟩) bs.length c ∧ Blks w (g :: ro) (some ⟨g,0,none⟩) bs ∧ Live w (g :: ro) := by
 obtain ⟨us,h1,h2⟩ := h.own
 obtain ⟨g,c,rfl,b1,b2⟩ := row_block h1 hp
 refine ⟨g,c,rfl,fun k b hk => ?_,fun b hb => ?_⟩
 ·obtain ⟨u,e1,e3,e2⟩ := h2 k b hk
  have hkl := (List.getElem?_eq_some_iff.1 hk).1
  obtain ⟨a,c',q0,q1,q2,q3,q4,q5⟩ := e2
  exact ⟨g,u,rfl,by simp,(h1.cellAt (k * 2) (by omega)).trans e1,(h1.cellAt (k * 2 + 1) (by omega)).trans e3,a,c',q0,q1,q2,q3,q4,fun x e => List.mem_cons_of_mem _ (q5 x e)⟩
 ·rcases List.mem_cons.1 hb with rfl | hb
  ·exact b2
  ·exact (h.lo b hb).2
theorem num_100 (x : List UInt8) : M.number [x] = [⟨1,x⟩] := rfl
theorem parts_100 (d : List UInt8) (hd : d.length = 100) : parts 100 d = [d ++ List.replicate 28 26] := by
 have h1 : d ≠ [] := fun e => by rw [e] at hd;simp at hd
 have h2 : d.drop 128 = [] := List.drop_eq_nil_of_le (by omega)
 have h3 : d.take 128 = d := List.take_of_length_le (by omega)
 unfold parts
 rw [if_neg h1,h2,h3,hd]
 unfold parts
 simp
theorem bs_join {w9 : World} {S1 S2 S3 N0 N2 N3 : Nat} {r1 r2 r3 : List Nat} {p q r : M.Snd} (x0 x1 : Value) (h1 : Snded w9 S1 r1 p) (h2 : Snded w9 S2 r2 q) (h3 : Snded w9 S3 r3 r) (a1 : ∀ b,b ∈ S1 :: r1 → N0 ≤ b ∧ b < N2) (a2 : ∀ b,b ∈ S2 :: r2 → N2 ≤ b ∧ b < N3) (a3 : ∀ b,b ∈ S3 :: r3 → N3 ≤ b ∧ b < w9.heap.size) (h39 : N3 ≤ w9.heap.size) :
  BsAt ((w9.alloc (.cells #[.pointer (some ⟨S2,0,none⟩),.pointer (some ⟨S3,0,none⟩)] 205)).alloc (.cells (bsnA x0 x1 S1 (.slice (some ⟨w9.heap.size,0,none⟩) 2 2) 0 false) 237)) ⟨w9.heap.size + 1,w9.heap.size,S1,S2,S3,r1,r2,r3⟩ ⟨p,[q,r],0,false⟩ ∧
   ∀ b,b ∈ BsF.all ⟨w9.heap.size + 1,w9.heap.size,S1,S2,S3,r1,r2,r3⟩ → N0 ≤ b := by
 have o : Only [] w9 ((w9.alloc (.cells #[.pointer (some ⟨S2,0,none⟩),.pointer (some ⟨S3,0,none⟩)] 205)).alloc (.cells (bsnA x0 x1 S1 (.slice (some ⟨w9.heap.size,0,none⟩) 2 2) 0 false) 237)) := ((Only.refl [] w9).alloc _).alloc _
 have e1 := a1 S1 (by simp)
 have e2 := a2 S2 (by simp)
 have e3 := a3 S3 (by simp)
 refine ⟨⟨⟨x0,x1,S1,_,new1 w9 _ _,.a p q r (h1.of_only o (by simp) (fun b _ => by simp)) (h2.of_only o (by simp) (fun b _ => by simp)) (h3.of_only o (by simp) (fun b _ => by simp))⟩,new0 w9 _ _,⟨fun b => if b = w9.heap.size + 1 then 0 else if b = w9.heap.size then 1 else if b = S1 then 2 else if b = S2 then 3 else if b = S3 then 4 else 5,?_,?_,?_,?_,?_,?_,?_,?_⟩,?_⟩,?_⟩
 ·simp
 ·dsimp only
  rw [if_neg (by omega)];simp
 ·dsimp only
  rw [if_neg (by omega),if_neg (by omega)];simp
 ·dsimp only
  rw [if_neg (by omega),if_neg (by omega),if_neg (by omega)];simp
 ·dsimp only
  rw [if_neg (by omega),if_neg (by omega),if_neg (by omega),if_neg (by omega)];simp
 ·intro b hb
  have h := a1 b (by simp [hb])
  have hn : b ≠ S1 := fun e => h1.nS (e ▸ hb)
  dsimp only
  rw [if_neg (by omega),if_neg (by omega),if_neg hn,if_neg (by omega),if_neg (by omega)]
 ·intro b hb
  have h := a2 b (by simp [hb])
  have hn : b ≠ S2 := fun e => h2.nS (e ▸ hb)
  dsimp only
  rw [if_neg (by omega),if_neg (by omega),if_neg (by omega),if_neg hn,if_neg (by omega)]
 ·intro b hb
  have h := a3 b (by simp [hb])
  have hn : b ≠ S3 := fun e => h3.nS (e ▸ hb)
  dsimp only
  rw [if_neg (by omega),if_neg (by omega),if_neg (by omega),if_neg (by omega),if_neg hn]
 ·intro b hb
  have hsz : ((w9.alloc (.cells #[.pointer (some ⟨S2,0,none⟩),.pointer (some ⟨S3,0,none⟩)] 205)).alloc (.cells (bsnA x0 x1 S1 (.slice (some ⟨w9.heap.size,0,none⟩) 2 2) 0 false) 237)).heap.size = w9.heap.size + 2 := by simp
  rw [hsz]
  simp only [BsF.all,List.mem_cons,List.mem_append] at hb
  rcases hb with h | h | h | h | h | h | h | h
  ·omega
  ·omega
  ·omega
  ·omega
  ·omega
  ·have := a1 b (by simp [h]);omega
  ·have := a2 b (by simp [h]);omega
  ·have := a3 b (by simp [h]);omega
 ·intro b hb
  simp only [BsF.all,List.mem_cons,List.mem_append] at hb
  rcases hb with h | h | h | h | h | h | h | h
  ·omega
  ·omega
  ·omega
  ·omega
  ·omega
  ·have := a1 b (by simp [h]);omega
  ·have := a2 b (by simp [h]);omega
  ·have := a3 b (by simp [h]);omega
theorem bsof_any (cf : M.Cfg) (a0 : Option Addr) (c0 : Nat) (d : List UInt8) (w : World) (hcf : CfgOk cf) (hd : d.length = 100) (hg : Glob w) (hb : Bytes w a0 d) (hc : 100 ≤ c0) (hm : c0 ≤ 9223372036854775807) (hnil : a0 = none → c0 = 0) (ha : ∀ ad,a0 = some ad → ad.block < w.heap.size) :
  Calls Tryz.prog 89 #[.agg #[.int .i64 cf.tries,.int .i64 cf.wait],.agg #[strB fb,.int .i64 0,.int .i64 0,.int .i64 0],.slice a0 100 c0] w fun e w' => ∃ F : BsF,e = .returned (.tuple #[.pointer (some ⟨F.X,0,none⟩),.nilIface]) ∧ BsAt w' F (M.bsndOf cf fb d) ∧ (∀ b,b ∈ F.all → w.heap.size ≤ b) ∧ Only [] w w' := by
 have HH := LH (AI hcf (AI hd (AI hg (AI hb (AI hnil ha)))))
 clear hcf hd hg hb hnil ha
 go_enter Tryz.func89,Tryz.ntmps89
 go_upto_region 2 with fail
 obtain ⟨A,hA⟩ : ∃ A,A = w.heap.size := ⟨_,rfl⟩
 obtain ⟨B,hB⟩ : ∃ B,B = A + 1 := ⟨_,rfl⟩
 generalize hw2 : World.alloc (World.alloc w _) _ = w2
 have H2 := LH (show w2.heap[A]? = some (.cells #[.int .i64 cf.tries,.int .i64 cf.wait] 31 (0,0)) ∧ w2.heap[B]? = some (.cells #[strB fb,.int .i64 100,.int .i64 0,.int .i64 0] 203 (0,0)) ∧ Only [] w w2 by
  subst hw2
  rw [hB,hA]
  exact ⟨new0 w _ _,new1 w _ _,((Only.refl [] w).alloc _).alloc _⟩)
 rw [← hA,← hB]
 have HAB := LH (AI hA hB)
 clear hw2 hA hB
 have b0 : w2.cell? ⟨B,0,none⟩ = some (strB fb) := cell_at H2.out.2.1 rfl
 have b1 : w2.cell? ⟨B,1,none⟩ = some (.int .i64 100) := cell_at H2.out.2.1 rfl
 have b2 : w2.cell? ⟨B,2,none⟩ = some (.int .i64 0) := cell_at H2.out.2.1 rfl
 have b3 : w2.cell? ⟨B,3,none⟩ = some (.int .i64 0) := cell_at H2.out.2.1 rfl
 go_upto_region 5 with (go_at_call 107;refine (hmake_any w2 (HH.out.2.2.1.of_none H2.out.2.2)).mono ?_;rintro e w3 ⟨v1,rfl,hv1,o3⟩;obtain ⟨q1,c1,rfl⟩ := out_form hv1 hm_len;have H3 := LH (AI hv1 o3);clear hv1 o3)
 have h3A := H3.out.2.heap H2.out.1 (by simp)
 have a0' : w3.cell? ⟨A,0,none⟩ = some (.int .i64 cf.tries) := cell_at h3A rfl
 have a1' : w3.cell? ⟨A,1,none⟩ = some (.int .i64 cf.wait) := cell_at h3A rfl
 have H3A := LH h3A
 clear h3A b0 b1 b2 b3
 have hblk := heap_alloc_new w3 (.cells #[byteV 0,.slice (some ⟨q1,0,none⟩) 128 c1] 234)
 obtain ⟨k1,k2⟩ := blks_one (H3.out.1.of_only ((Only.refl [] w3).alloc (.cells #[byteV 0,.slice (some ⟨q1,0,none⟩) 128 c1] 234)) (by simp)) hm_len hblk
 have HS1 := LH (sof_any cf (some ⟨w3.heap.size,0,none⟩) 1 1 _ [⟨0,M.headerMake fb 100⟩] true false _ HH.out.1 k1 rfl k2 (by omega) (fun b hb => by simp at hb;subst hb;exact .inl hm_len))
 clear hblk k1 k2
 go_upto_region 6 with (go_at_call 91;refine HS1.out.mono ?_;rintro e w4 ⟨S1,r1,rfl,hS1,hr1,hsn1,o4,hl1⟩;have HL1 := LH hl1;have H4 := LH (AI hS1 (AI hr1 (AI hsn1 (((Only.refl [] w3).alloc _).trans o4))));clear hS1 hr1 hsn1 o4 hl1)
 clear a0' a1'
 have hA4 := H4.out.2.2.2.heap H3A.out (by simp)
 have p0 : w4.cell? ⟨A,0,none⟩ = some (.int .i64 cf.tries) := cell_at hA4 rfl
 have p1 : w4.cell? ⟨A,1,none⟩ = some (.int .i64 cf.wait) := cell_at hA4 rfl
 have o4 : Only [] w w4 := (H2.out.2.2.trans H3.out.2).trans H4.out.2.2.2
 have hsp := split_any a0 100 c0 true d w4.drew ((HH.out.2.2.2.1.of_only o4 (.inr (by intro ad e;simp))).drew) HH.out.2.1 hc hm HH.out.2.2.2.2.1 (fun ad e => Nat.lt_of_lt_of_le (HH.out.2.2.2.2.2 ad e) o4.size) (by omega)
 have HSP := LH hsp
 have HA4 := LH (AI hA4 o4)
 clear hsp hA4 o4
 go_region_held3 (fun w' => w'.cell? ⟨A,0,none⟩ = some (.int .i64 cf.tries) ∧ w'.cell? ⟨A,1,none⟩ = some (.int .i64 cf.wait)) (first | exact ⟨p0,p1⟩ | exact ⟨cell_at H7.out.1 rfl,cell_at H7.out.1 rfl⟩ | exact ⟨cell_at H6.out.1 rfl,cell_at H6.out.1 rfl⟩ | exact ⟨cell_at H5.out.1 rfl,cell_at H5.out.1 rfl⟩ | go_keep) (first
  | (go_at_call 90;go_loud (refine HSP.out.mono ?_;rintro e w5 ⟨v5,r5,rfl,hp5,o5⟩;rw [parts_100 d HH.out.2.1] at hp5;obtain ⟨g5,c5,rfl,hs5,hl5⟩ := parts_slcs hp5 (by simp);have H5 := LH (AI (o5.heap HA4.out.1 (by simp)) (AI hs5 (AI hl5 (((Only.refl [] w4).drew).trans o5))));clear hp5 hs5 hl5 o5))
  | (go_at_call 92;go_loud (refine (numb_any (some ⟨g5,0,none⟩) 1 c5 _ [d ++ List.replicate 28 26] w5 H5.out.2.1 rfl H5.out.2.2.1 (by omega) (fun p hp => by simp at hp;subst hp;simp [HH.out.2.1])).mono ?_;rintro e w6 ⟨v6,r6,rfl,hp6,o6⟩;rw [num_100] at hp6;obtain ⟨g6,c6,rfl,hs6,hl6⟩ := blkrow_blks hp6 (by simp);have H6 := LH (AI (o6.heap H5.out.1 (by simp)) (AI hs6 (AI hl6 (H5.out.2.2.2.trans o6))));clear hp6 hs6 hl6 o6))
  | (go_at_call 91;go_loud (refine (sof_any cf (some ⟨g6,0,none⟩) 1 c6 _ [⟨1,d ++ List.replicate 28 26⟩] true true w6 HH.out.1 H6.out.2.1 rfl H6.out.2.2.1 (by omega) (fun b hb => by simp only [List.mem_singleton] at hb;subst hb;left;simp [HH.out.2.1])).mono ?_;rintro e w7 ⟨S2,r2,rfl,hS2,hr2,hsn2,o7,hl2⟩;have HL2 := LH hl2;have H7 := LH (AI (o7.heap H6.out.1 (by simp)) (AI hS2 (AI hr2 (AI hsn2 (H6.out.2.2.2.trans o7)))));clear hS2 hr2 hsn2 o7 hl2)))
 clear p0 p1
 have p0 : w7.cell? ⟨A,0,none⟩ = some (.int .i64 cf.tries) := cell_at H7.out.1 rfl
 have p1 : w7.cell? ⟨A,1,none⟩ = some (.int .i64 cf.wait) := cell_at H7.out.1 rfl
 go_upto_region 7 with fail
 go_region_held3 (fun w' => w'.cell? ⟨A,0,none⟩ = some (.int .i64 cf.tries) ∧ w'.cell? ⟨A,1,none⟩ = some (.int .i64 cf.wait)) (first | exact ⟨p0,p1⟩ | exact ⟨cell_at H9.out.1 rfl,cell_at H9.out.1 rfl⟩ | exact ⟨cell_at H8.out.1 rfl,cell_at H8.out.1 rfl⟩ | go_keep) (first
  | (go_at_call 108;go_loud (refine (empty_any w7.drew).mono ?_;rintro e w8 ⟨v8,rfl,hv8,o8⟩;obtain ⟨q8,c8,rfl⟩ := out_form hv8 he_len;have H8 := LH (AI (o8.heap H7.out.1 (by simp)) (AI hv8 (((Only.refl [] w7).drew).trans o8)));clear hv8 o8))
  | (go_at_call 91;go_loud (have K8 := blks_one (H8.out.2.1.of_only ((Only.refl [] w8).alloc (.cells #[byteV 0,.slice (some ⟨q8,0,none⟩) 128 c8] 234)) (by simp)) he_len (heap_alloc_new w8 (.cells #[byteV 0,.slice (some ⟨q8,0,none⟩) 128 c8] 234));refine (sof_any cf (some ⟨w8.heap.size,0,none⟩) 1 1 _ [⟨0,M.headerEmpty⟩] true false _ HH.out.1 K8.1 rfl K8.2 (by omega) (fun b hb => by simp only [List.mem_singleton] at hb;subst hb;exact .inl he_len)).mono ?_;rintro e w9 ⟨S3,r3,rfl,hS3,hr3,hsn3,o9,hl3⟩;have HL3 := LH hl3;have o89 := ((Only.refl [] w8).alloc (.cells #[byteV 0,.slice (some ⟨q8,0,none⟩) 128 c8] 234)).trans o9;have H9 := LH (AI (o89.heap H8.out.1 (by simp)) (AI hS3 (AI hr3 (AI hsn3 (H8.out.2.2.trans o89)))));clear hS3 hr3 hsn3 o9 o89 K8 hl3)))
 clear p0 p1
 have p0 : w9.cell? ⟨A,0,none⟩ = some (.int .i64 cf.tries) := cell_at H9.out.1 rfl
 have p1 : w9.cell? ⟨A,1,none⟩ = some (.int .i64 cf.wait) := cell_at H9.out.1 rfl
 go_wp2_with fail
 go_ret2
 obtain ⟨z1,z2,z3,z4⟩ := H4.out
 obtain ⟨_,y2,y3,y4,y5⟩ := H7.out
 obtain ⟨_,x2,x3,x4,x5⟩ := H9.out
 have l1 := HL1.out
 have l2 := HL2.out
 have l3 := HL3.out
 have o4 : Only [] w w4 := (H2.out.2.2.trans H3.out.2).trans z4
 have w24 : w.heap.size ≤ w4.heap.size := o4.size
 have s34 : w.heap.size ≤ (w3.alloc (.cells #[byteV 0,.slice (some ⟨q1,0,none⟩) 128 c1] 234)).heap.size := ((H2.out.2.2.trans H3.out.2).alloc _).size
 have s56 : w4.heap.size ≤ w6.heap.size := H6.out.2.2.2.size
 have s78 : w7.heap.size ≤ (w8.alloc (.cells #[byteV 0,.slice (some ⟨q8,0,none⟩) 128 c8] 234)).heap.size := (H8.out.2.2.alloc _).size
 have s47 := y5.size
 have s79 := x5.size
 have g1 := z3.of_only (y5.trans x5) (by simp) (fun b _ => by simp)
 have g2 := y4.of_only x5 (by simp) (fun b _ => by simp)
 have a1 : ∀ b,b ∈ S1 :: r1 → w.heap.size ≤ b ∧ b < w4.heap.size := fun b hb => by
  rcases List.mem_cons.1 hb with rfl | hb
  ·exact ⟨Nat.le_trans s34 z1,heap_lt z3.str.choose_spec.choose_spec.1⟩
  ·exact ⟨Nat.le_trans s34 (z2 b hb),l1 b hb⟩
 have a2 : ∀ b,b ∈ S2 :: r2 → w4.heap.size ≤ b ∧ b < w7.heap.size := fun b hb => by
  rcases List.mem_cons.1 hb with rfl | hb
  ·exact ⟨Nat.le_trans s56 y2,heap_lt y4.str.choose_spec.choose_spec.1⟩
  ·exact ⟨Nat.le_trans s56 (y3 b hb),l2 b hb⟩
 have a3 : ∀ b,b ∈ S3 :: r3 → w7.heap.size ≤ b ∧ b < w9.heap.size := fun b hb => by
  rcases List.mem_cons.1 hb with rfl | hb
  ·exact ⟨Nat.le_trans s78 x2,heap_lt x4.str.choose_spec.choose_spec.1⟩
  ·exact ⟨Nat.le_trans s78 (x3 b hb),l3 b hb⟩
 obtain ⟨j1,j2⟩ := bs_join (.int .i64 cf.tries) (.int .i64 cf.wait) g1 g2 x4 a1 a2 a3 s79
 have hm : M.bsndOf cf fb d = ⟨M.sndOf cf [⟨0,M.headerMake fb 100⟩] true false,[M.sndOf cf [⟨1,d ++ List.replicate 28 26⟩] true true,M.sndOf cf [⟨0,M.headerEmpty⟩] true false],0,false⟩ := by
  unfold M.bsndOf
  rw [split_parts d true (.inr (by rw [HH.out.2.1];omega)),HH.out.2.1,parts_100 d HH.out.2.1,num_100]
 rw [hm]
 exact ⟨_,rfl,j1,j2,((o4.trans (y5.trans x5)).alloc _).alloc _⟩
def hostA (tries wait htries room : Int) (wake es images : Value) (phase k up : Int) (play giver watch : Value) (left : Int) (ring demux heard out meter err : Value) : Array Value :=
 #[.int .i64 tries,.int .i64 wait,.int .i64 htries,.int .i64 room,wake,es,images,.int .i64 phase,.int .i64 k,.int .i64 up,play,giver,watch,.int .i64 left,ring,demux,heard,out,meter,err]
theorem brought_any (H : Nat) (tries wait htries room : Int) (wake es images : Value) (phase k up : Int) (play giver watch : Value) (left : Int) (ring demux heard out meter err : Value) (w : World) (h : w.heap[H]? = some (.cells (hostA tries wait htries room wake es images phase k up play giver watch left ring demux heard out meter err) 96 (0,0))) :
  Calls Tryz.prog 15 #[.pointer (some ⟨H,0,none⟩)] w fun e w' => e = .returned (.int .i64 k) ∧ w = w' := by
 have c8 : w.cell? ⟨H,8,none⟩ = some (.int .i64 k) := cell_at h rfl
 clear h
 go_enter Tryz.func15,Tryz.ntmps15
 go_wp2_with fail
 go_ret
 exact ⟨rfl,rfl⟩
theorem done_any (H : Nat) (tries wait htries room : Int) (wake es images : Value) (phase k up : Int) (play giver watch : Value) (left : Int) (ring demux heard out meter err : Value) (w : World) (h : w.heap[H]? = some (.cells (hostA tries wait htries room wake es images phase k up play giver watch left ring demux heard out meter err) 96 (0,0))) :
  Calls Tryz.prog 26 #[.pointer (some ⟨H,0,none⟩)] w fun e w' => e = .returned (.tuple #[.bool (phase == 7),err]) ∧ ∃ m,w' = w.drewN m := by
 have c7 : w.cell? ⟨H,7,none⟩ = some (.int .i64 phase) := cell_at h rfl
 have c19 : w.cell? ⟨H,19,none⟩ = some err := cell_at h rfl
 clear h
 go_enter Tryz.func26,Tryz.ntmps26
 go_upto_region 1 with fail
 go_quiet (fail)
 go_wp2_with fail
 go_ret2
 exact ⟨rfl,_,rfl⟩
theorem hout_any (H : Nat) (tries wait htries room : Int) (wake es images : Value) (phase k up : Int) (play giver watch : Value) (left : Int) (ring demux heard out meter err : Value) (w : World) (h : w.heap[H]? = some (.cells (hostA tries wait htries room wake es images phase k up play giver watch left ring demux heard out meter err) 96 (0,0))) :
  Calls Tryz.prog 48 #[.pointer (some ⟨H,0,none⟩)] w fun e w' => e = .returned out ∧ w'.heap[H]? = some (.cells (hostA tries wait htries room wake es images phase k up play giver watch left ring demux heard (.slice none 0 0) meter err) 96 (0,0)) ∧ Only [H] w w' := by
 have c17 : w.cell? ⟨H,17,none⟩ = some out := cell_at h rfl
 have f17 : w.frozen? ⟨H,17,none⟩ = false := free_at h
 have HH := LH h
 clear h
 go_enter Tryz.func48,Tryz.ntmps48
 go_wp2_with fail
 go_ret
 exact ⟨rfl,hs_same HH.out rfl,only_set w H 17 _⟩
structure Zone (w : World) (G : Nat → Nat) (f : Nat → List Nat) : Prop where
 tag : ∀ i,Tag G i (f i)
 live : ∀ i,Live w (f i)
def upd (f : Nat → List Nat) (i : Nat) (l : List Nat) : Nat → List Nat := fun j => if j = i then l else f j
theorem upd_same (f : Nat → List Nat) (i : Nat) (l : List Nat) : upd f i l i = l := by simp [upd]
theorem upd_other (f : Nat → List Nat) {i j : Nat} (l : List Nat) (h : j ≠ i) : upd f i l j = f j := by simp [upd,h]
theorem Zone.sep {w : World} {G : Nat → Nat} {f : Nat → List Nat} (h : Zone w G f) {i j : Nat} (hij : i ≠ j) : Sep (f i) (f j) := fun b hb hc => hij ((h.tag i b hb).symm.trans (h.tag j b hc))
theorem Zone.of_none {w w' : World} {G : Nat → Nat} {f : Nat → List Nat} (h : Zone w G f) (ho : w.heap.size ≤ w'.heap.size) : Zone w' G f := ⟨h.tag,fun j => (h.live j).ev ho⟩
def EsAt (w : World) (ge : Nat) (es : List M.Entry) : Prop :=
 ∀ (k : Nat) (e : M.Entry),es[k]? = some e → w.cell? ⟨ge,k * 5,none⟩ = some (strB e.name) ∧ w.cell? ⟨ge,k * 5 + 1,none⟩ = some (.int .i64 e.addr) ∧ w.cell? ⟨ge,k * 5 + 2,none⟩ = some (.int .i64 e.size) ∧ w.cell? ⟨ge,k * 5 + 3,none⟩ = some (.int .u32 e.print) ∧ w.cell? ⟨ge,k * 5 + 4,none⟩ = some (.int .i64 e.way)
theorem EsAt.of_only {w w' : World} {ge : Nat} {es : List M.Entry} {ks : List Nat} (h : EsAt w ge es) (ho : Only ks w w') (hs : ge ∉ ks) : EsAt w' ge es := fun k e he => by
 obtain ⟨h0,h1,h2,h3,h4⟩ := h k e he
 exact ⟨ho.cell h0 hs,ho.cell h1 hs,ho.cell h2 hs,ho.cell h3 hs,ho.cell h4 hs⟩
def PlayIs (w : World) (P : Nat) (f : List Nat) (x : M.Host) : Prop :=
 (x.playState = 0 → ListensAt w P f x.playLeft x.playW) ∧ (x.playState = 1 → P ∈ f ∧ PlayOver w P)
theorem PlayIs.of_only {w w' : World} {P : Nat} {f ks : List Nat} {x : M.Host} (h : PlayIs w P f x) (ho : Only ks w w') (hs : Sep f ks) : PlayIs w' P f x :=
 ⟨fun e => (h.1 e).of_only ho hs,fun e => ⟨(h.2 e).1,(h.2 e).2.of_only ho (hs _ (h.2 e).1)⟩⟩
def GiverIs (w : World) (v : Value) (f : List Nat) : M.Giver → Prop
 | .none => True
 | .one s => ∃ S ro,v = .iface 205 (.pointer (some ⟨S,0,none⟩)) ∧ f = S :: ro ∧ Snded w S ro s
 | .batch s => ∃ F : BsF,v = .iface 199 (.pointer (some ⟨F.X,0,none⟩)) ∧ f = F.all ∧ BsAt w F s
theorem GiverIs.of_only {w w' : World} {v : Value} {f ks : List Nat} {g : M.Giver} (h : GiverIs w v f g) (ho : Only ks w w') (hs : Sep f ks) : GiverIs w' v f g := by
 cases g with
 | none => trivial
 | one s =>
  obtain ⟨S,ro,e,rfl,h⟩ := h
  exact ⟨S,ro,e,rfl,h.of_only ho (hs S (by simp)) (fun b hb => hs b (by simp [hb]))⟩
 | batch s =>
  obtain ⟨F,e,rfl,h⟩ := h
  exact ⟨F,e,rfl,h.of_only ho hs⟩
def WatchIs (w : World) (v : Value) (f : List Nat) (x : M.Host) : Prop :=
 x.phase ≠ 0 → x.phase ≠ 1 → x.phase ≠ 5 → x.phase ≠ 7 → ∃ W,v = .pointer (some ⟨W,0,none⟩) ∧ Watched w W f x.watch
theorem WatchIs.of_only {w w' : World} {v : Value} {f ks : List Nat} {x : M.Host} (h : WatchIs w v f x) (ho : Only ks w w') (hs : Sep f ks) : WatchIs w' v f x := fun a b c d => by
 obtain ⟨W,e,h⟩ := h a b c d
 exact ⟨W,e,h.of_only ho hs⟩
structure HV where
 room : Int
 wake : Value
 es : Value
 images : Value
 P : Nat
 giver : Value
 watch : Value
 R : Nat
 S : Nat
 rat : Nat
 Dm : Nat
 db : Nat
 dv : Value
 mode : Nat
 ss : List Seg
 ha : Option Addr
 hc : Nat
 hs : List UInt8
 oa : Option Addr
 oc : Nat
 ma : Int
 mb : Int
def hostZ (z : HV) (x : M.Host) : Array Value :=
 hostA x.cfg.tries x.cfg.wait x.tries z.room z.wake z.es z.images x.phase x.k x.up (.pointer (some ⟨z.P,0,none⟩)) z.giver z.watch x.left (.pointer (some ⟨z.S,0,none⟩)) (.pointer (some ⟨z.Dm,0,none⟩)) (.slice z.ha x.heard z.hc) (.slice z.oa x.out.length z.oc) (.complex .f64 (floatOfInt .f64 z.ma) (floatOfInt .f64 z.mb)) (errV x.err)
def EsIs (w : World) (v : Value) (f : List Nat) (es : List M.Entry) : Prop :=
 ∃ a c,v = .slice a es.length c ∧ es.length ≤ c ∧ (es ≠ [] → ∃ g,a = some ⟨g,0,none⟩ ∧ g ∈ f ∧ EsAt w g es)
theorem EsIs.of_only {w w' : World} {v : Value} {f ks : List Nat} {es : List M.Entry} (h : EsIs w v f es) (ho : Only ks w w') (hs : Sep f ks) : EsIs w' v f es := by
 obtain ⟨a,c,h1,h2,h3⟩ := h
 refine ⟨a,c,h1,h2,fun hn => ?_⟩
 obtain ⟨g,e,hg,h⟩ := h3 hn
 exact ⟨g,e,hg,h.of_only ho (hs g hg)⟩
def ImIs (w : World) (v : Value) (f : List Nat) (ims : List M.B) : Prop :=
 ∃ a c,v = .slice a ims.length c ∧ ims.length ≤ c ∧ Slcs w f a ims
theorem ImIs.of_only {w w' : World} {v : Value} {f ks : List Nat} {ims : List M.B} (h : ImIs w v f ims) (ho : Only ks w w') (hs : Sep f ks) : ImIs w' v f ims := by
 obtain ⟨a,c,h1,h2,h3⟩ := h
 exact ⟨a,c,h1,h2,h3.of_only ho hs⟩
abbrev RowAt (w : World) (base : Nat) (a : Option Addr) (c : Nat) (bs : List UInt8) : Prop := w.ownsRow base 5 1 (.slice a bs.length c) bs.length (bs.map byteV)
structure HParts (w : World) (H : Nat) (z : HV) (f : Nat → List Nat) (x : M.Host) (i : Nat) : Prop where
 es : i ≠ 1 → EsIs w z.es (f 1) x.es
 im : i ≠ 2 → ImIs w z.images (f 2) x.images
 play : i ≠ 3 → PlayIs w z.P (f 3) x
 giver : i ≠ 4 → GiverIs w z.giver (f 4) x.giver
 watch : i ≠ 5 → WatchIs w z.watch (f 5) x
 ring : i ≠ 6 → Ringed w z.R z.S x.ring.cap z.rat x.ring.q x.ring.lost ∧ f 6 = [z.R,z.S]
 demux : i ≠ 7 → Demuxed w z.Dm z.db z.dv z.mode x.heard z.ss ∧ f 7 = z.Dm :: ownL z.dv
 heard : i ≠ 8 → RowAt w (H + 1) z.ha z.hc z.hs ∧ z.hs.length = x.heard ∧ f 8 = ownL (.slice z.ha x.heard z.hc)
 out : i ≠ 9 → RowAt w (H + 1) z.oa z.oc x.out ∧ f 9 = ownL (.slice z.oa x.out.length z.oc)
structure HNums (z : HV) (x : M.Host) : Prop where
 cfg : CfgOk x.cfg
 ma0 : 0 ≤ z.ma
 ma1 : z.ma ≤ 1099511627776
 mb0 : 0 ≤ z.mb
 mb1 : z.mb ≤ 1099511627776
 k : x.k ≤ x.es.length
 es8 : x.es.length ≤ 8
 up : x.up ≤ 9
structure HostAt (w : World) (H : Nat) (z : HV) (f : Nat → List Nat) (x : M.Host) : Prop where
 str : w.heap[H]? = some (.cells (hostZ z x) 96 (0,0))
 f0 : f 0 = [H]
 zone : ∃ G,Zone w G f
 parts : HParts w H z f x 0
 nums : HNums z x
def allF (f : Nat → List Nat) : List Nat := (List.range 10).flatMap f
theorem mem_allF {f : Nat → List Nat} {b : Nat} : b ∈ allF f ↔ ∃ j,j < 10 ∧ b ∈ f j := by simp [allF]
def HostIs (w : World) (H : Nat) (fp : List Nat) (x : M.Host) : Prop := ∃ z f,fp = allF f ∧ HostAt w H z f x
theorem HostIs.mem {w : World} {H : Nat} {fp : List Nat} {x : M.Host} (h : HostIs w H fp x) : H ∈ fp := by
 obtain ⟨z,f,rfl,h⟩ := h
 exact mem_allF.2 ⟨0,by omega,by rw [h.f0];simp⟩
theorem HostIs.live {w : World} {H : Nat} {fp : List Nat} {x : M.Host} (h : HostIs w H fp x) : Live w fp := by
 obtain ⟨z,f,rfl,h⟩ := h
 obtain ⟨G,hz⟩ := h.zone
 intro b hb
 obtain ⟨j,_,hj⟩ := mem_allF.1 hb
 exact hz.live j b hj
theorem Sep.head {f ks : List Nat} {H : Nat} (h : Sep f [H]) (k : Sep f ks) : Sep f (H :: ks) := fun b hb hx => by
 rcases List.mem_cons.1 hx with e | hx
 ·exact h b hb (by simp [e])
 ·exact k b hb hx
theorem RowAt.of_only {w w' : World} {base : Nat} {a : Option Addr} {c : Nat} {bs : List UInt8} {n : Nat} {f ks : List Nat} (h : RowAt w base a c bs) (hn : bs.length = n) (hf : f = ownL (.slice a n c)) (ho : Only ks w w') (hs : Sep f ks) : RowAt w' base a c bs :=
 ownsRow_only h ho (fun g e => hs g (by rw [hf,← hn];exact mem_ownL.2 e))
theorem HParts.of_only {w w' : World} {H : Nat} {z : HV} {f : Nat → List Nat} {x : M.Host} {ks : List Nat} (h : HParts w H z f x 0) (i : Nat) (ho : Only ks w w') (hs : ∀ j,j ≠ 0 → j ≠ i → Sep (f j) ks) : HParts w' H z f x i where
 es := fun hi => (h.es (by decide)).of_only ho (hs 1 (by decide) (Ne.symm hi))
 im := fun hi => (h.im (by decide)).of_only ho (hs 2 (by decide) (Ne.symm hi))
 play := fun hi => (h.play (by decide)).of_only ho (hs 3 (by decide) (Ne.symm hi))
 giver := fun hi => (h.giver (by decide)).of_only ho (hs 4 (by decide) (Ne.symm hi))
 watch := fun hi => (h.watch (by decide)).of_only ho (hs 5 (by decide) (Ne.symm hi))
 ring := fun hi => by
  obtain ⟨h1,h2⟩ := h.ring (by decide)
  have hs6 := hs 6 (by decide) (Ne.symm hi)
  rw [h2] at hs6
  exact ⟨h1.of_only ho (hs6 _ (by simp)) (hs6 _ (by simp)),h2⟩
 demux := fun hi => by
  obtain ⟨h1,h2⟩ := h.demux (by decide)
  have hs7 := hs 7 (by decide) (Ne.symm hi)
  rw [h2] at hs7
  exact ⟨h1.of_only ho (hs7 _ (by simp)) (fun g e => hs7 _ (List.mem_cons_of_mem _ (mem_ownL.2 e))),h2⟩
 heard := fun hi => by
  obtain ⟨h1,h2,h3⟩ := h.heard (by decide)
  exact ⟨h1.of_only h2 h3 ho (hs 8 (by decide) (Ne.symm hi)),h2,h3⟩
 out := fun hi => by
  obtain ⟨h1,h3⟩ := h.out (by decide)
  exact ⟨h1.of_only rfl h3 ho (hs 9 (by decide) (Ne.symm hi)),h3⟩
theorem Zone.turn {w w' : World} {G : Nat → Nat} {f : Nat → List Nat} {i : Nat} {l : List Nat} (h : Zone w G f) (hs : w.heap.size ≤ w'.heap.size) (hg : Grow (f i) l w) (hl : Live w' l) : Zone w' (retag G w.heap.size i) (upd f i l) := by
 refine ⟨fun j => ?_,fun j => ?_⟩
 ·by_cases hj : j = i
  ·subst hj
   rw [upd_same]
   exact (h.tag j).grow hg
  ·rw [upd_other f l hj]
   exact (h.tag j).keep (h.live j)
 ·by_cases hj : j = i
  ·subst hj;rw [upd_same];exact hl
  ·rw [upd_other f l hj];exact (h.live j).ev hs
theorem HostAt.sepH {w : World} {H : Nat} {z : HV} {f : Nat → List Nat} {x : M.Host} (h : HostAt w H z f x) {j : Nat} (hj : j ≠ 0) : Sep (f j) [H] := by
 obtain ⟨G,hz⟩ := h.zone
 have := hz.sep hj
 rwa [h.f0] at this
theorem HostAt.sep {w : World} {H : Nat} {z : HV} {f : Nat → List Nat} {x : M.Host} (h : HostAt w H z f x) {i j : Nat} (hij : i ≠ j) : Sep (f i) (f j) := by
 obtain ⟨G,hz⟩ := h.zone
 exact hz.sep hij
theorem HostAt.notH {w : World} {H : Nat} {z : HV} {f : Nat → List Nat} {x : M.Host} (h : HostAt w H z f x) {j : Nat} (hj : j ≠ 0) : H ∉ f j := fun hm => h.sepH hj H hm (by simp)
theorem HostAt.live {w : World} {H : Nat} {z : HV} {f : Nat → List Nat} {x : M.Host} (h : HostAt w H z f x) (j : Nat) : Live w (f j) := by
 obtain ⟨G,hz⟩ := h.zone
 exact hz.live j
theorem HostAt.hlt {w : World} {H : Nat} {z : HV} {f : Nat → List Nat} {x : M.Host} (h : HostAt w H z f x) : H < w.heap.size := heap_lt h.str
theorem HostAt.turn {w w' : World} {H : Nat} {z : HV} {f : Nat → List Nat} {x : M.Host} (h : HostAt w H z f x) (i : Nat) (hi : i ≠ 0) (hi10 : i < 10) {l : List Nat} (ho : Only (H :: f i) w w') (hg : Grow (f i) l w) (hl : Live w' l) : (∃ G,Zone w' G (upd f i l)) ∧ HParts w' H z f x i ∧ Ev w w' (allF f) (allF (upd f i l)) := by
 obtain ⟨G,hz⟩ := h.zone
 refine ⟨⟨_,hz.turn ho.size hg hl⟩,h.parts.of_only i ho (fun j hj hji => (h.sepH hj).head (h.sep hji)),ho.weaken ?_,?_⟩
 ·intro b hb
  rcases List.mem_cons.1 hb with rfl | hb
  ·exact mem_allF.2 ⟨0,by omega,by rw [h.f0];simp⟩
  ·exact mem_allF.2 ⟨i,hi10,hb⟩
 ·intro b hb
  obtain ⟨j,hj,hb⟩ := mem_allF.1 hb
  by_cases hji : j = i
  ·subst hji
   rw [upd_same] at hb
   exact (hg b hb).imp (fun h1 => mem_allF.2 ⟨j,hj,h1⟩) id
  ·rw [upd_other f l hji] at hb
   exact .inl (mem_allF.2 ⟨j,hj,hb⟩)
theorem HostAt.own {w w' : World} {H : Nat} {z : HV} {f : Nat → List Nat} {x : M.Host} (h : HostAt w H z f x) (ho : Only [H] w w') : (∃ G,Zone w' G f) ∧ HParts w' H z f x 0 ∧ Ev w w' (allF f) (allF f) := by
 obtain ⟨G,hz⟩ := h.zone
 exact ⟨⟨G,hz.of_none ho.size⟩,h.parts.of_only 0 ho (fun j hj _ => h.sepH hj),Ev.of_only ho (fun b hb => by
  simp at hb;subst hb
  exact mem_allF.2 ⟨0,by omega,by rw [h.f0];simp⟩)⟩
theorem HostAt.of_only {w w' : World} {H : Nat} {z : HV} {f : Nat → List Nat} {x : M.Host} {ks : List Nat} (h : HostAt w H z f x) (ho : Only ks w w') (hs : Sep (allF f) ks) : HostAt w' H z f x := by
 obtain ⟨G,hz⟩ := h.zone
 have hs' : ∀ j,j < 10 → Sep (f j) ks := fun j hj b hb => hs b (mem_allF.2 ⟨j,hj,hb⟩)
 have hH : H ∉ ks := hs H (mem_allF.2 ⟨0,by omega,by rw [h.f0];simp⟩)
 have hp := h.parts
 refine ⟨ho.heap h.str hH,h.f0,⟨G,hz.of_none ho.size⟩,⟨fun _ => (hp.es (by decide)).of_only ho (hs' 1 (by decide)),fun _ => (hp.im (by decide)).of_only ho (hs' 2 (by decide)),fun _ => (hp.play (by decide)).of_only ho (hs' 3 (by decide)),fun _ => (hp.giver (by decide)).of_only ho (hs' 4 (by decide)),fun _ => (hp.watch (by decide)).of_only ho (hs' 5 (by decide)),fun _ => ?_,fun _ => ?_,fun _ => ?_,fun _ => ?_⟩,h.nums⟩
 ·obtain ⟨h1,h2⟩ := hp.ring (by decide)
  have hs6 := hs' 6 (by decide)
  rw [h2] at hs6
  exact ⟨h1.of_only ho (hs6 _ (by simp)) (hs6 _ (by simp)),h2⟩
 ·obtain ⟨h1,h2⟩ := hp.demux (by decide)
  have hs7 := hs' 7 (by decide)
  rw [h2] at hs7
  exact ⟨h1.of_only ho (hs7 _ (by simp)) (fun g e => hs7 _ (List.mem_cons_of_mem _ (mem_ownL.2 e))),h2⟩
 ·obtain ⟨h1,h2,h3⟩ := hp.heard (by decide)
  exact ⟨h1.of_only h2 h3 ho (hs' 8 (by decide)),h2,h3⟩
 ·obtain ⟨h1,h3⟩ := hp.out (by decide)
  exact ⟨h1.of_only rfl h3 ho (hs' 9 (by decide)),h3⟩
theorem HostIs.of_only {w w' : World} {H : Nat} {fp : List Nat} {x : M.Host} {ks : List Nat} (h : HostIs w H fp x) (ho : Only ks w w') (hs : Sep fp ks) : HostIs w' H fp x := by
 obtain ⟨z,f,rfl,h⟩ := h
 exact ⟨z,f,rfl,h.of_only ho hs⟩
def HPost (w : World) (H : Nat) (fp : List Nat) (x' : M.Host) (e : Ending) (w' : World) : Prop :=
 e = .returned (.tuple #[]) ∧ ∃ fp',HostIs w' H fp' x' ∧ Ev w w' fp fp'
theorem HPost.after {w w1 w2 : World} {H : Nat} {fp fp1 : List Nat} {x' : M.Host} {e : Ending} (h : HPost w1 H fp1 x' e w2) (e1 : Ev w w1 fp fp1) : HPost w H fp x' e w2 := by
 obtain ⟨he,fp',h1,h2⟩ := h
 exact ⟨he,fp',h1,e1.trans h2⟩
end Go.Proofs.YtplaamfoeaaaiaaGreatDoor
