/- A part of the proofs of the laws of lifelinetop (TopNever, TopLost, TopRoom): contracts of functions that these laws reach. No condition of its own. -/
import Derived.Test.YtplaamfoeaaaiaaGreatDoorK02
import Derived.Test.YtplaamfoeaaaiaaGreatDoorK09
import Derived.Test.YtplaamfoeaaaiaaGreatDoorK10
import Derived.Test.YtplaamfoeaaaiaaGreatDoorK17
import Derived.Test.YtplaamfoeaaaiaaGreatDoorK18
import Derived.Deep.RegionLaw
import Derived.Deep.DeepCutAuto
import Derived.Deep.AppendLies
import Derived.Deep.RegionHeld3
import Derived.Deep.RegionLawGrows
set_option maxRecDepth 100000
set_option maxHeartbeats 8000000
set_option linter.unusedVariables false
namespace Go.Proofs.YtplaamfoeaaaiaaGreatDoor
open Go.RowKit
def CfgOk (c : M.Cfg) : Prop := 1 ≤ c.tries ∧ c.tries ≤ 9 ∧ 1 ≤ c.wait ∧ c.wait ≤ 99
theorem CfgOk.fit {c : M.Cfg} (h : CfgOk c) : c.fit = c := by
 obtain ⟨h1,h2,h3,h4⟩ := h
 unfold M.Cfg.fit
 cases c
 simp only [M.Cfg.mk.injEq] at *
 omega
theorem rof_any (c : M.Cfg) (num : UInt8) (crc close : Bool) (w : World) (h : CfgOk c) :
  Calls Tryz.prog 138 #[.agg #[.int .i64 c.tries,.int .i64 c.wait],byteV num,.bool crc,.bool close,.int .i64 1] w fun e w' => ∃ R,e = .returned (.pointer (some ⟨R,0,none⟩)) ∧ w.heap.size ≤ R ∧ Rcved w' R (.slice none 0 0) (.slice none 0 0) (M.rcvOf c num crc close 1) ∧ Only [] w w' := by
 have hr : M.rcvOf c num crc close 1 = ⟨crc,c.wait,c.tries,1,num,false,close,[],[],0,1,false,0⟩ := by
  unfold M.rcvOf;rw [h.fit];simp
 obtain ⟨h1,h2,h3,h4⟩ := h
 have m1 : (if (1 : Int) < (c.tries : Int) then (c.tries : Int) else 1) = c.tries := by split <;> omega
 have m2 : (if (1 : Int) < (c.wait : Int) then (c.wait : Int) else 1) = c.wait := by split <;> omega
 have HR := LH hr
 clear hr
 go_enter Tryz.func138,Tryz.ntmps138
 go_wp2_with fail
 go_region
 go_wp2_with fail
 go_ret
 have o1 : Only [] w (((w.alloc (.cells #[.int .i64 c.tries,.int .i64 c.wait] 31)).drew.alloc (.cells (rcvA ⟨crc,c.wait,c.tries,1,num,false,close,[],[],0,1,false,0⟩ (.slice none 0 0) (.slice none 0 0)) 308))) := (((Only.refl [] w).alloc _).drew).alloc _
 have hs : ((w.alloc (.cells #[.int .i64 c.tries,.int .i64 c.wait] 31)).drew).heap.size = w.heap.size + 1 := by simp
 have hb := heap_alloc_new ((w.alloc (.cells #[.int .i64 c.tries,.int .i64 c.wait] 31)).drew) (.cells (rcvA ⟨crc,c.wait,c.tries,1,num,false,close,[],[],0,1,false,0⟩ (.slice none 0 0) (.slice none 0 0)) 308)
 rw [hs] at hb
 refine ⟨w.heap.size + 1,rfl,by omega,?_,?_⟩
 ·rw [HR.out]
  exact ⟨hb,RowB.nil _,RowB.nil _,by simp [Value.ownBlock],by simp [Value.ownBlock],fun g e => by simp [Value.ownBlock] at e,⟨h3,h4⟩,h2,⟨Nat.le_refl _,by simp⟩,by simp,by simp,by simp⟩
 ·exact o1
theorem size31 : (Tryz.prog.info? 31).map (·.size) = some 2 := by kernel_rfl
theorem fit_any (c : M.Cfg) (w : World) (h : CfgOk c) :
  Calls Tryz.prog 109 #[.agg #[.int .i64 c.tries,.int .i64 c.wait]] w fun e w' => e = .returned (.agg #[.int .i64 c.tries,.int .i64 c.wait]) ∧ Only [] w w' := by
 obtain ⟨h1,h2,h3,h4⟩ := h
 have m1 : (if (1 : Int) < (c.tries : Int) then (c.tries : Int) else 1) = c.tries := by split <;> omega
 have m2 : (if (1 : Int) < (c.wait : Int) then (c.wait : Int) else 1) = c.wait := by split <;> omega
 go_enter Tryz.func109,Tryz.ntmps109
 go_wp2_with fail
 refine bodyPost_ret (results_cell_row (p := 2) (ty := 31) (cs := #[.int .i64 c.tries,.int .i64 c.wait]) rfl _ _ (w.heap.size + 1) 31 (fr := (0,0)) _ rfl ?_ Tryz.underlying31 rfl size31) rfl ?_
 ·have hs : (w.alloc (.cells #[.int .i64 c.tries,.int .i64 c.wait] 31)).heap.size = w.heap.size + 1 := by simp
  have hb := heap_alloc_new (w.alloc (.cells #[.int .i64 c.tries,.int .i64 c.wait] 31)) (.cells #[.int .i64 c.tries,.int .i64 c.wait] 31)
  rw [hs] at hb
  exact hb
 ·exact ⟨rfl,((Only.refl [] w).alloc _).alloc _⟩
def sofA (c : M.Cfg) (v : Value) (close crc : Bool) : Array Value :=
 #[.int .i64 c.tries,.int .i64 c.wait,v,.bool close,.bool crc,.int .i64 0,.int .i64 0,.int .i64 0,.int .i64 0,.bool false,.nilIface]
def SofAt (S : Nat) (c : M.Cfg) (close crc : Bool) (bs : List M.Blk) (k : Nat) (wr : World) : Prop :=
 ∃ a cp ro,wr.heap[S]? = some (.cells (sofA c (.slice a k cp) close crc) 241 (0,0)) ∧ BlkRow wr (S + 1) ro (.slice a k cp) (bs.take k)
theorem take_blk (bs : List M.Blk) (k : Nat) (b : M.Blk) (h : bs[k]? = some b) : bs.take (k + 1) = bs.take k ++ [b] := by
 have hk := (List.getElem?_eq_some_iff.1 h)
 rw [List.take_succ_eq_append_getElem hk.1,hk.2]
theorem sof_any (cf : M.Cfg) (a : Option Addr) (n c : Nat) (ro0 : List Nat) (bs : List M.Blk) (crc close : Bool) (w : World) (hcf : CfgOk cf) (h : Blks w ro0 a bs) (hn : bs.length = n) (hro : Live w ro0) (hN : n ≤ 65536) (hlen : ∀ b,b ∈ bs → b.data.length = 128 ∨ b.data.length = 1024) :
  Calls Tryz.prog 91 #[.agg #[.int .i64 cf.tries,.int .i64 cf.wait],.slice a n c,.bool crc,.bool close] w fun e w' => ∃ S ro,e = .returned (.pointer (some ⟨S,0,none⟩)) ∧ w.heap.size ≤ S ∧ (∀ b,b ∈ ro → w.heap.size ≤ b) ∧ Snded w' S ro (M.sndOf cf bs crc close) ∧ Only [] w w' ∧ Live w' ro := by
 have HS := LH (AI h (AI hn (AI hro hlen)))
 clear h hn hro hlen
 obtain ⟨k1,k2,k3,k4⟩ := hcf
 go_enter Tryz.func91,Tryz.ntmps91
 go_wp2_with (first | (go_at_call 109;refine (fit_any cf _ ⟨k1,k2,k3,k4⟩).mono ?_;rintro e w1 ⟨rfl,ho1⟩;have HO1 := LH ho1;clear ho1))
 obtain ⟨S,hS⟩ : ∃ S,S = w1.heap.size := ⟨_,rfl⟩
 obtain ⟨wb,hwb⟩ : ∃ wb,wb = w1.alloc (.cells (sofA cf (.slice none 0 0) close crc) 241) := ⟨_,rfl⟩
 have hbS : wb.heap[S]? = some (.cells (sofA cf (.slice none 0 0) close crc) 241 (0,0)) := by rw [hwb,hS];exact heap_alloc_new w1 _
 have o0 : Only [] w w1 := ((Only.refl [] w).alloc _).trans HO1.out
 have ob : Only [] w wb := by rw [hwb];exact o0.alloc _
 have hwS : w.heap.size ≤ S := by rw [hS];exact o0.size
 have hst : SofAt S cf close crc bs 0 wb := ⟨none,0,[],hbS,⟨⟨[],World.ownsRow_nil _ _ _ _,fun j p hj => by simp at hj⟩,fun b hb => by simp at hb,fun g e => by simp [Value.ownBlock] at e⟩⟩
 have HB := LH (AI hst ob)
 have hwb' : (w1.alloc (.cells #[.int .i64 cf.tries,.int .i64 cf.wait,.slice none 0 0,.bool close,.bool crc,.int .i64 0,.int .i64 0,.int .i64 0,.int .i64 0,.bool false,.nilIface] 241)) = wb := hwb.symm
 rw [hwb',← hS]
 clear hwb hwb' hbS o0 ob hst hS
 go_loopw [20] (fun s20 wr => ∃ (k : Nat),k ≤ n ∧ s20 = .int .i64 k ∧ SofAt S cf close crc bs k wr ∧ Only [] w wr) (fun s20 _ => n - (intOf s20).toNat)
 case atStart => exact ⟨0,Nat.zero_le _,rfl,HB.out⟩
 case round =>
  obtain ⟨k,hk,rfl,⟨a1,cp,ro',hSS,hrow⟩,ho⟩ := hrel
  by_cases hlt : k < n
  ·obtain ⟨b,hbk⟩ : ∃ b,bs[k]? = some b := ⟨_,List.getElem?_eq_getElem (by rw [HS.out.2.1];exact hlt)⟩
   obtain ⟨g,u,rfl,hg,cn,cu,hsl⟩ := HS.out.1 k b hbk
   obtain ⟨au,cu',rfl,b1,b2,b3,b4,b5⟩ := hsl
   have hbl := HS.out.2.2.2 b (List.mem_of_getElem? hbk)
   have hbl0 : 0 < b.data.length := by omega
   have hbl1 : b.data.length ≤ 1024 := by omega
   obtain ⟨Bd,od,rfl,_⟩ := b1.at 0 hbl0
   have hgl : g < w.heap.size := HS.out.2.2.1 g hg
   have cnw := ho.cell cn (by simp)
   have cuw := ho.cell cu (by simp)
   have hbw : Bytes wr (some ⟨Bd,od,none⟩) b.data := b1.of_only ho (.inr (by intro ad e;simp))
   have hgr : g < wr.heap.size := Nat.lt_of_lt_of_le hgl ho.size
   have hwr := ho.size
   have hSr := heap_lt hSS
   obtain ⟨us0,hus0,hus1⟩ := hrow.own
   have hlk : (bs.take k).length = k := by simp;rw [HS.out.2.1];omega
   rw [hlk] at hus0
   have htk := take_blk bs k b hbk
   have hgS : (Value.slice a1 k cp).ownBlock ≠ some S := fun e => by have := (hus0.lt S e).1;omega
   have HX := LH (AI hrow (AI ho (AI hbw (AI hSS (AI htk (AI hus0 (AI hus1 hlk)))))))
   clear hrow ho hbw b1 b4 b5 hSS htk hus0 hus1 hlk hbk cn cu hbl
   go_upto_region 5 with fail
   obtain ⟨wa,hwa⟩ : ∃ wa,wa = wr.alloc (.cells #[byteV b.number,.slice (some ⟨Bd,od,none⟩) b.data.length cu'] 234) := ⟨_,rfl⟩
   rw [← hwa]
   have oa : Only [] wr wa := by rw [hwa];exact (Only.refl [] wr).alloc _
   have bx : wa.heap[wr.heap.size]? = some (.cells #[byteV b.number,.slice (some ⟨Bd,od,none⟩) b.data.length cu'] 234 (0,0)) := by rw [hwa];exact heap_alloc_new wr _
   have x0 : wa.cell? ⟨wr.heap.size,0,none⟩ = some (byteV b.number) := cell_at bx rfl
   have x1 : wa.cell? ⟨wr.heap.size,1,none⟩ = some (.slice (some ⟨Bd,od,none⟩) b.data.length cu') := cell_at bx rfl
   have y2 : wa.cell? ⟨S,2,none⟩ = some (.slice a1 k cp) := cell_at (oa.heap HX.out.2.2.2.1 (by simp)) rfl
   have f2 : wa.frozen? ⟨S,2,none⟩ = false := free_at (oa.heap HX.out.2.2.2.1 (by simp))
   have HA := LH (AI oa bx)
   have hSa : S < wa.heap.size := Nat.lt_of_lt_of_le hSr oa.size
   have hxa : wr.heap.size < wa.heap.size := heap_lt bx
   clear hwa oa bx cnw cuw
   obtain ⟨i5,h50,h51,h52,h53⟩ := info_parts Tryz.info5
   obtain ⟨i2,g0,g1,g2,g3⟩ := info_parts Tryz.info234
   obtain ⟨L,hL⟩ : ∃ L,L = b.data.length := ⟨_,rfl⟩
   have hba : Bytes wa (some ⟨Bd,od,none⟩) b.data := HX.out.2.2.1.of_only HA.out.1 (.inr (by intro ad e;simp))
   have husa : wa.ownsRow (S + 1) 234 2 (.slice a1 k cp) k us0 := ownsRow_only HX.out.2.2.2.2.2.1 HA.out.1 (by simp)
   have hfin : ∀ (w5 w6 : World) (gg cp1 g5 cp5 : Nat),Only [] wa w5 → w5.ownsRow wa.heap.size 5 1 (.slice (some ⟨g5,0,none⟩) L cp5) L (b.data.map byteV) →
     w6.ownsRow (S + 1) 234 2 (.slice (some ⟨gg,0,none⟩) (k + 1) cp1) (k + 1) (us0 ++ [byteV b.number,.slice (some ⟨g5,0,none⟩) L cp5]) → (w5.alloc (.cells #[byteV b.number,.slice (some ⟨g5,0,none⟩) L cp5] 234)).grownBy w6 (Value.slice a1 k cp).ownBlock → ((Value.slice a1 k cp).ownBlock = some gg ∨ gg = w5.heap.size + 1) →
     SofAt S cf close crc bs (k + 1) (w6.setCell ⟨S,2,none⟩ (.slice (some ⟨gg,0,none⟩) (k + 1) cp1)) ∧ Only [] w (w6.setCell ⟨S,2,none⟩ (.slice (some ⟨gg,0,none⟩) (k + 1) cp1)) := by
    intro w5 w6 gg cp1 g5 cp5 o5 r5 r6 grow6 at6
    have o15 : Only [] wr w5 := HA.out.1.trans o5
    have K6 : Only (ownL (.slice a1 k cp)) w5 w6 := ((Only.refl _ w5).alloc _).trans (only_grown grow6)
    have hS6 : w6.heap[S]? = some (.cells (sofA cf (.slice a1 k cp) close crc) 241 (0,0)) := K6.heap (o15.heap HX.out.2.2.2.1 (by simp)) (fun hb => hgS (mem_ownL.1 hb))
    have hrb : RowB w5 (.slice (some ⟨g5,0,none⟩) L cp5) b.data := by unfold RowB;rw [← hL];exact ownsRow_base r5 (Nat.zero_le _)
    have hp := BlkRow.push (K := K6) (B1 := wa.heap.size) (n := k + 1) (b := b) (HX.out.1.of_none o15) hrb (fun g e => (r5.lt g e).1) (fun g e => (husa.lt g e).2) (by omega) (fun g e => by simp [Value.ownBlock] at e;subst e;exact at6.imp id (fun e => by omega)) us0 r6 (by rw [HX.out.2.2.2.2.2.2.2]) (by rw [HX.out.2.2.2.2.2.2.2];exact ownsRow_only husa o5 (by simp)) (fun j q hj => by
     obtain ⟨u,z0,z1,z2⟩ := HX.out.2.2.2.2.2.2.1 j q hj
     exact ⟨u,z0,z1,z2.of_only o15 (fun b _ => by simp)⟩)
    rw [← HX.out.2.2.2.2.1] at hp
    have o6 : Only [] w w6 := ((HX.out.2.1.trans o15).alloc _).grown grow6 (fun b hb => .inr (by have := (husa.lt b hb).1;omega))
    exact ⟨⟨_,_,_,hs_same hS6 rfl,hp.of_only (only_set w6 S 2 _) (by simp)⟩,o6.setFresh hwS _⟩
   have HF := LH hfin
   rw [← hL] at x1 hbl0 hbl1
   try rw [← hL]
   have HL := LH hL
   clear hfin hL
   go_region_law (first
    | (refine step_append_lies _ (by rfl) _ _ _ (by rfl) wa.heap.size 5 i5 _ 1 1 Tryz.underlying22 h50 h51 h52 h53 rfl (by omega) (.slice none 0 0) 0 [] (by rfl) (World.ownsRow_nil _ _ _ _) ⟨Bd,od,none⟩ L cu' (b.data.map byteV) (by rfl) (by simp [HL.out]) (bytes_news hba.drew) (byteV_one _) hbl0 (by unfold maxLen;omega) (by omega) (Nat.le_refl _) wa.heap.size rfl ?_;intro g5 cp5 w5 own5 grow5 at5 lt5;rw [Nat.zero_add] at own5 ⊢;have o5 : Only [] wa w5 := ((Only.refl [] wa).drew).trans ((only_grown grow5).weaken (by simp [Value.ownBlock]));have y25 := o5.cell y2 (by simp);have x05 := o5.cell x0 (by simp);have x15 := o5.cell x1 (by simp);have f25 : w5.frozen? ⟨S,2,none⟩ = false := free_at (o5.heap (HA.out.1.heap HX.out.2.2.2.1 (by simp)) (by simp));have hus5 := ownsRow_only husa o5 (by simp);have hs5 := o5.size;have hS5 : S < w5.heap.size := by omega)
    | (refine step_append_lies _ (by rfl) _ _ _ (by rfl) (S + 1) 234 i2 _ 2 32 Tryz.underlying207 g0 g1 g2 g3 rfl (by omega) (.slice a1 k cp) k us0 (by rfl) (hus5.alloc _) ⟨w5.heap.size,0,none⟩ 1 1 [byteV b.number,.slice (some ⟨g5,0,none⟩) L cp5] (by rfl) (by rfl) (World.news_of_block (cs := #[byteV b.number,.slice (some ⟨g5,0,none⟩) L cp5]) (t := 234) (fr := (0,0)) (heap_alloc_new w5 _)) (by simp [Value.oneCell']) (by omega) (by unfold maxLen;omega) (by omega) (by simp;omega) (w5.heap.size + 1) (by simp) ?_;intro gg cp1 w6 own6 grow6 at6 lt6;have y26 : w6.cell? ⟨S,2,none⟩ = some (.slice a1 k cp) := (grow6.cell_far ⟨S,2,none⟩ (by simp;omega) (Ne.symm hgS)).trans ((World.cell?_alloc_past _ _ _ (by omega)).trans y25);have f26 : w6.frozen? ⟨S,2,none⟩ = false := (grow6.frozen_far ⟨S,2,none⟩ (by simp;omega) (Ne.symm hgS)).trans ((World.frozen?_alloc_past _ _ _ (by omega)).trans f25)))
   all_goals go_wp2_with fail
   all_goals exact ⟨⟨k + 1,by omega,by go_num,HF.out _ _ _ _ _ _ o5 own5 own6 grow6 at6⟩,by simp [intOf];omega⟩
  ·obtain rfl : k = n := by omega
   have ht : bs.take k = bs := by rw [List.take_of_length_le];rw [HS.out.2.1];exact Nat.le_refl _
   rw [ht] at hrow
   have c1 : wr.cell? ⟨S,1,none⟩ = some (.int .i64 cf.wait) := cell_at hSS rfl
   have c7 : wr.cell? ⟨S,7,none⟩ = some (.int .i64 0) := cell_at hSS rfl
   have c8 : wr.cell? ⟨S,8,none⟩ = some (.int .i64 0) := cell_at hSS rfl
   have f7 : wr.frozen? ⟨S,7,none⟩ = false := free_at hSS
   have f8 : wr.frozen? ⟨S,8,none⟩ = false := free_at hSS
   have HR := LH (AI hrow (AI hSS ho))
   clear hrow hSS ho ht
   go_wp2_with fail
   go_ret
   have hfit : (M.sndOf cf bs crc close) = ⟨cf,bs,close,crc,0,0,1,cf.wait,false,0⟩ := by unfold M.sndOf;rw [CfgOk.fit ⟨k1,k2,k3,k4⟩]
   have o9 : Only [S] wr ((wr.setCell ⟨S,8,none⟩ (.int .i64 cf.wait)).setCell ⟨S,7,none⟩ (.int .i64 1)) := ((Only.refl _ _).setCell (by simp) _).setCell (by simp) _
   have hr9 := HR.out.1.of_only o9 (by simp)
   obtain ⟨a9,c9,hv9,hb9,hl9⟩ := hr9.blks
   simp only [Value.slice.injEq] at hv9
   obtain ⟨rfl,hk9,rfl⟩ := hv9
   have hlo := hr9.lo
   have hSro : ∀ b,b ∈ ownL (.slice a1 k cp) ++ ro' → S + 1 ≤ b := fun b hb => by
    rcases List.mem_append.1 hb with h' | h'
    ·obtain ⟨us,h1,_⟩ := hr9.own
     exact (h1.lt b (mem_ownL.1 h')).1
    ·exact (hlo b h').1
   refine ⟨S,ownL (.slice a1 k cp) ++ ro',rfl,hwS,fun b hb => by have := hSro b hb;omega,?_,(HR.out.2.2.setFresh hwS _).setFresh hwS _,fun b hb => ?_⟩
   rotate_left
   ·rcases List.mem_append.1 hb with h' | h'
    ·obtain ⟨us,h1,_⟩ := hr9.own
     exact (h1.lt b (mem_ownL.1 h')).2
    ·exact (hlo b h').2
   rw [hfit]
   refine ⟨⟨a1,cp,?_,hb9,hl9⟩,HS.out.2.2.2,fun hb => by have := hSro S hb;omega,⟨k1,k2⟩,⟨k3,k4⟩,by simp,k4,by simp,by simp,by show bs.length ≤ _;rw [HS.out.2.1];exact hN,by simp⟩
   have := hs_same (hs_same HR.out.2.1 (v := .int .i64 cf.wait) (i := 8) rfl) (v := .int .i64 1) (i := 7) rfl
   rw [hk9] at this
   exact this
end Go.Proofs.YtplaamfoeaaaiaaGreatDoor
namespace Go.Proofs.YtplaamfoeaaaiaaGreatDoor
open Go.RowKit
open Go.ChangeMaps (setBlock)
def setCells (l : List UInt8) : List Value := l.flatMap fun c => [bitV c 0,bitV c 1,bitV c 2,bitV c 3]
theorem setCells_snoc (l : List UInt8) (c : UInt8) : setCells (l ++ [c]) = setCells l ++ [bitV c 0,bitV c 1,bitV c 2,bitV c 3] := by
 simp [setCells]
theorem Tryz.info224 : (Tryz.prog.info? 224).map (fun i => (i.zero,i.size,i.bytes)) = some (some (.agg #[.int .u64 0,.int .u64 0,.int .u64 0,.int .u64 0]),4,32) := by kernel_rfl
structure MkAt (w : World) (base M X : Nat) (vs : Value) (cs : List UInt8) (n : Nat) : Prop where
 str : w.heap[M]? = some (.cells #[vs,.map (some X)] 268 (0,0))
 sets : w.ownsRow base 224 4 vs cs.length (setCells cs)
 prs : Pairs w X n
 sM : vs.ownBlock ≠ some M
 sX : vs.ownBlock ≠ some X
 bl : base ≤ w.heap.size
 bM : base ≤ M
 bX : base ≤ X
theorem three_set {w : World} {g : Nat} {x0 x1 x2 : Value} {t : TypeId} (h : w.heap[g]? = some (.cells #[x0,x1,x2] t (0,0))) (a b c : Value) : (((w.setCell ⟨g,0,none⟩ a).setCell ⟨g,1,none⟩ b).setCell ⟨g,2,none⟩ c).heap[g]? = some (.cells #[a,b,c] t (0,0)) :=
 hs_same (hs_same (hs_same h rfl) rfl) rfl
theorem three_only (w : World) (N : Nat) (v0 v1 v2 : Value) : Only [N] w (((w.setCell ⟨N,0,none⟩ v0).setCell ⟨N,1,none⟩ v1).setCell ⟨N,2,none⟩ v2) :=
 (((Only.refl [N] w).setCell (by simp) v0).setCell (by simp) v1).setCell (by simp) v2
theorem size271 : (Tryz.prog.info? 271).map (·.size) = some 3 := by kernel_rfl
structure TwoMaps (w7 w8 w9 w10 w11 : World) (A B : Nat) (m : Int) : Prop where
 mk1 : (Instr.makeMap 269 none).run Tryz.prog w7 = .ok (.map (some A)) w8
 up1 : (Instr.mapUpdate 269 (.map (some A)) (.int .i64 m) (.bool true)).run Tryz.prog w8 = .ok () w9
 mk2 : (Instr.makeMap 269 none).run Tryz.prog w9 = .ok (.map (some B)) w10
 up2 : (Instr.mapUpdate 269 (.map (some B)) (.int .i64 m) (.bool true)).run Tryz.prog w10 = .ok () w11
 hA : OneMap w11 A m
 hB : OneMap w11 B m
 ho : Only [] w7 w11
 lA : w7.heap.size ≤ A
 lB : w7.heap.size ≤ B
theorem two_maps (w7 : World) (m : Int) : ∃ w8 w9 w10 w11 A B,TwoMaps w7 w8 w9 w10 w11 A B m := by
 obtain ⟨w8,hw8⟩ : ∃ w8,w8 = w7.alloc (.map #[] 0) := ⟨_,rfl⟩
 obtain ⟨A,hA⟩ : ∃ A,A = w7.heap.size := ⟨_,rfl⟩
 have h8 : w8.heap[A]? = some (.map #[] 0) := by rw [hw8,hA];exact heap_alloc_new w7 _
 have o8 : Only [] w7 w8 := by rw [hw8];exact (Only.refl [] w7).alloc _
 obtain ⟨w9,hw9⟩ : ∃ w9,w9 = setBlock w8 A (.map #[entI m] 1) := ⟨_,rfl⟩
 have h9 : OneMap w9 A m := by unfold OneMap;rw [hw9];exact heap_setBlock _ _ _ (heap_lt h8)
 have o9 : Only [A] w8 w9 := by rw [hw9];exact only_setBlock _ _ _
 obtain ⟨w10,hw10⟩ : ∃ w10,w10 = w9.alloc (.map #[] 0) := ⟨_,rfl⟩
 obtain ⟨B,hB⟩ : ∃ B,B = w9.heap.size := ⟨_,rfl⟩
 have h10 : w10.heap[B]? = some (.map #[] 0) := by rw [hw10,hB];exact heap_alloc_new w9 _
 have o10 : Only [] w9 w10 := by rw [hw10];exact (Only.refl [] w9).alloc _
 obtain ⟨w11,hw11⟩ : ∃ w11,w11 = setBlock w10 B (.map #[entI m] 1) := ⟨_,rfl⟩
 have h11 : OneMap w11 B m := by unfold OneMap;rw [hw11];exact heap_setBlock _ _ _ (heap_lt h10)
 have o11 : Only [B] w10 w11 := by rw [hw11];exact only_setBlock _ _ _
 have l9 := heap_lt h9
 have s8 := o8.size
 have s9 := o9.size
 refine ⟨w8,w9,w10,w11,A,B,by rw [hA,hw8];exact run_makeMap (P := Tryz.prog) 269 w7,by rw [hw9];exact update_new w8 A m h8,by rw [hB,hw10];exact run_makeMap (P := Tryz.prog) 269 w9,by rw [hw11];exact update_new w10 B m h10,?_,h11,?_,by omega,by omega⟩
 ·exact o11.heap (map_old h9 o10) (by simp;omega)
 ·exact ((o8.fresh' o9 (by intro b hb;simp at hb;omega)).trans o10).fresh' o11 (by intro b hb;simp at hb;omega)
theorem makeOne_any (base M X : Nat) (vs : Value) (cs : List UInt8) (n : Nat) (c : UInt8) (w : World) (h : MkAt w base M X vs cs n) (hl : cs.length ≤ 1000) :
  Calls Tryz.prog 125 #[.pointer (some ⟨M,0,none⟩),.agg (oneNode c)] w fun e w' => ∃ A B vs',e = .returned (.agg #[.map (some A),.map (some B),.bool false]) ∧ w.heap.size ≤ A ∧ w.heap.size ≤ B ∧ OneMap w' A cs.length ∧ OneMap w' B cs.length ∧ MkAt w' base M X vs' (cs ++ [c]) n ∧ Only (M :: ownL vs) w w' ∧ (∀ g,vs'.ownBlock = some g → vs.ownBlock = some g ∨ w.heap.size ≤ g) := by
 obtain ⟨a0,c0,rfl⟩ := own_slice h.sets
 obtain ⟨m,hm⟩ : ∃ m,m = cs.length := ⟨_,rfl⟩
 obtain ⟨N,hN⟩ : ∃ N,N = w.heap.size := ⟨_,rfl⟩
 obtain ⟨R,hR⟩ : ∃ R,R = N + 1 := ⟨_,rfl⟩
 obtain ⟨wb,hwb⟩ : ∃ wb,wb = (w.alloc (.cells (oneNode c) 227)).alloc (.cells #[.map none,.map none,.bool false] 271) := ⟨_,rfl⟩
 have hbR : wb.heap[R]? = some (.cells #[.map none,.map none,.bool false] 271 (0,0)) := by
  have := heap_alloc_new (w.alloc (.cells (oneNode c) 227)) (.cells #[.map none,.map none,.bool false] 271)
  rw [hwb,hR,hN];simpa using this
 have hbN : wb.heap[N]? = some (.cells (oneNode c) 227 (0,0)) := by
  rw [hwb];exact ((Only.refl [] _).alloc _).heap (by rw [hN];exact heap_alloc_new w _) (by simp)
 have ob : Only [] w wb := by rw [hwb];exact ((Only.refl [] w).alloc _).alloc _
 have hM := ob.heap h.str (by simp)
 have hMl := heap_lt h.str
 rw [← hm] at hM
 have cv : wb.cell? ⟨M,0,none⟩ = some (.slice a0 m c0) := cell_at hM rfl
 have fv : wb.frozen? ⟨M,0,none⟩ = false := free_at hM
 obtain ⟨x0,x1,x2,x3,x4,x5⟩ := node_cells hbN
 have hsb : wb.heap.size = R + 1 := by rw [hwb,hR,hN];simp
 have HH := LH (AI h (AI hm (AI hN (AI hR (AI hwb (AI hbR (AI hbN (AI ob (AI hM hsb)))))))))
 have hml : m ≤ 1000 := by omega
 have hMN : M < N := by omega
 have hNR : N < R := by omega
 have hNw : w.heap.size ≤ N := by omega
 have hMb : M < wb.heap.size := by omega
 clear h hm hN hR hwb hbR hbN ob hM hsb hMl hl
 go_enter Tryz.func125,Tryz.ntmps125
 go_upto_region 1 with fail
 rw [← HH.out.2.2.2.2.1,← HH.out.2.2.1,← HH.out.2.2.2.1]
 go_upto_region 4 with fail
 obtain ⟨i2,g0,g1,g2,g3⟩ := info_parts Tryz.info224
 have hown : wb.ownsRow base 224 4 (.slice a0 m c0) m (setCells cs) := by rw [HH.out.2.1];exact ownsRow_only HH.out.1.sets HH.out.2.2.2.2.2.2.2.1 (by simp)
 have HW := LH hown
 have hb1 : base ≤ wb.heap.size := Nat.le_trans HH.out.1.bl HH.out.2.2.2.2.2.2.2.1.size
 have HI := LH (AI g0 (AI g1 (AI g2 g3)))
 have hgM : (Value.slice a0 m c0).ownBlock ≠ some M := by have := HH.out.1.sM;rw [← HH.out.2.1] at this;exact this
 clear hown g0 g1 g2 g3
 go_region_law (refine step_append_lies _ (by rfl) _ _ _ (by rfl) base 224 i2 _ 4 32 Tryz.underlying266 HI.out.1 HI.out.2.1 HI.out.2.2.1 HI.out.2.2.2 rfl (by omega) (.slice a0 m c0) m (setCells cs) (by rfl) (HW.out.alloc _) ⟨wb.heap.size,0,none⟩ 1 1 [bitV c 0,bitV c 1,bitV c 2,bitV c 3] (by rfl) (by rfl) (World.news_of_block (cs := #[bitV c 0,bitV c 1,bitV c 2,bitV c 3]) (t := 224) (fr := (0,0)) (heap_alloc_new wb _)) (by simp [Value.oneCell']) (by omega) (by unfold maxLen;omega) (by omega) (by simp;omega) (wb.heap.size + 1) (by simp) ?_;intro gg cp w6 own6 grow6 at6 lt6;have f26 : w6.frozen? ⟨M,0,none⟩ = false := (grow6.frozen_far ⟨M,0,none⟩ (by simp;omega) (Ne.symm hgM)).trans ((World.frozen?_alloc_past _ _ _ (by omega)).trans fv);have cv26 : w6.cell? ⟨M,0,none⟩ = some (.slice a0 m c0) := (grow6.cell_far ⟨M,0,none⟩ (by simp;omega) (Ne.symm hgM)).trans ((World.cell?_alloc_past _ _ _ (by omega)).trans cv))
 all_goals clear cv fv
 all_goals go_upto_region 5 with fail
 all_goals
  obtain ⟨w8,w9,w10,w11,A,B,HT⟩ := two_maps (w6.setCell ⟨M,0,none⟩ (.slice (some ⟨gg,0,none⟩) (m + 1) cp)) m
  have o6 : Only (M :: ownL (.slice a0 m c0)) wb (w6.setCell ⟨M,0,none⟩ (.slice (some ⟨gg,0,none⟩) (m + 1) cp)) := by
   refine Only.setCell ?_ (by simp) _
   exact (((Only.refl _ wb).alloc _).drew).trans ((only_grown grow6).weaken (fun x hx => List.mem_cons_of_mem _ hx))
  have hRM : R ∉ (M :: ownL (Value.slice a0 m c0)) := by
   intro hm'
   rcases List.mem_cons.1 hm' with h' | h'
   ·omega
   ·have hk := (HH.out.1.sets.lt R (by rw [← HH.out.2.1];exact mem_ownL.1 h')).2;omega
  have hR7 := o6.heap HH.out.2.2.2.2.2.1 hRM
  have hR11 := HT.ho.heap hR7 (by simp)
  have c0' : w11.cell? ⟨R,0,none⟩ = some (.map none) := cell_at hR11 rfl
  have c1' : w11.cell? ⟨R,1,none⟩ = some (.map none) := cell_at hR11 rfl
  have c2' : w11.cell? ⟨R,2,none⟩ = some (.bool false) := cell_at hR11 rfl
  have f0' : w11.frozen? ⟨R,0,none⟩ = false := free_at hR11
  have f1' : w11.frozen? ⟨R,1,none⟩ = false := free_at hR11
  have f2' : w11.frozen? ⟨R,2,none⟩ = false := free_at hR11
  have m1 := HT.mk1
  have m2 := HT.up1
  have m3 := HT.mk2
  have m4 := HT.up2
  have HG := LH (AI own6 (AI grow6 (AI at6 (AI hR11 (AI o6 HT)))))
  clear own6 grow6 at6 hR7 hR11 o6 HT f26 cv26 lt6 hRM
  go_wp2_with fail
  have h9 := three_set HG.out.2.2.2.1 (.map (some A)) (.map (some B)) (.bool false)
  have o9 := three_only w11 R (.map (some A)) (.map (some B)) (.bool false)
  refine bodyPost_ret (results_cell_row (p := 4) (ty := 271) (cs := #[.map (some A),.map (some B),.bool false]) rfl _ _ R 271 (fr := (0,0)) _ rfl h9 Tryz.underlying271 rfl size271) rfl ?_
  obtain ⟨own6,grow6,at6,_,o6,HT⟩ := HG.out
  have hwb := HH.out.2.2.2.2.2.2.2.1
  have s7 := o6.size
  have hsw := hwb.size
  have lA := HT.lA
  have lB := HT.lB
  have lRb : R < wb.heap.size := by have := HH.out.2.2.2.2.2.2.2.2.2;omega
  have o711 : Only [R] (w6.setCell ⟨M,0,none⟩ (.slice (some ⟨gg,0,none⟩) (m + 1) cp)) (((w11.setCell ⟨R,0,none⟩ (.map (some A))).setCell ⟨R,1,none⟩ (.map (some B))).setCell ⟨R,2,none⟩ (.bool false)) := (HT.ho.weaken (by simp)).trans o9
  have hwR : w.heap.size ≤ R := by omega
  have hall : Only (M :: ownL (.slice a0 m c0)) w (((w11.setCell ⟨R,0,none⟩ (.map (some A))).setCell ⟨R,1,none⟩ (.map (some B))).setCell ⟨R,2,none⟩ (.bool false)) :=
   ((hwb.weaken (by simp)).trans o6).fresh' o711 (by intro b hb;simp at hb;omega)
  have hm := HH.out.2.1
  have hM6 : w6.heap[M]? = some (.cells #[.slice a0 m c0,.map (some X)] 268 (0,0)) := by
   rw [grow6.block M (by simp;omega) (Ne.symm hgM)]
   exact ((Only.refl [] wb).alloc _).heap HH.out.2.2.2.2.2.2.2.2.1 (by simp)
  have hggM : gg ≠ M := by
   rcases at6 with h' | h'
   ·intro e;rw [e] at h';exact hgM h'
   ·omega
  have hggR : gg ≠ R := by
   rcases at6 with h' | h'
   ·have hk := (HH.out.1.sets.lt gg (by rw [← hm];exact h')).2;omega
   ·omega
  have hM7 := o711.heap (hs_same hM6 (v := .slice (some ⟨gg,0,none⟩) (m + 1) cp) (i := 0) rfl) (by simp;omega)
  have hs7 := ownsRow_only (ownsRow_only own6 (only_set w6 M 0 (.slice (some ⟨gg,0,none⟩) (m + 1) cp)) (by intro g e;simp [Value.ownBlock] at e;simp;omega)) o711 (by intro g e;simp [Value.ownBlock] at e;simp;omega)
  have hXM : X ≠ M := by intro e;have h1 := HH.out.1.prs;have h2 := HH.out.1.str;unfold Pairs at h1;rw [e,h2] at h1;cases h1
  have hX7 : Pairs _ X n := hall.heap HH.out.1.prs (by
   intro hx
   rcases List.mem_cons.1 hx with h' | h'
   ·exact hXM h'
   ·exact HH.out.1.sX (by rw [← hm];exact mem_ownL.1 h'))
  have hlen : (cs ++ [c]).length = m + 1 := by simp [hm]
  rw [hm] at hall
  refine ⟨A,B,.slice (some ⟨gg,0,none⟩) (m + 1) cp,rfl,by omega,by omega,by rw [← hm];exact o9.heap HT.hA (by simp;omega),by rw [← hm];exact o9.heap HT.hB (by simp;omega),⟨hM7,?_,hX7,?_,?_,?_,HH.out.1.bM,HH.out.1.bX⟩,hall,?_⟩
  ·rw [hlen,setCells_snoc];exact hs7
  ·intro e;simp [Value.ownBlock] at e;exact hggM e
  ·intro e;simp [Value.ownBlock] at e
   rcases at6 with h' | h'
   ·exact HH.out.1.sX (by rw [← hm,h',e])
   ·have := heap_lt HH.out.1.prs;omega
  ·exact Nat.le_trans HH.out.1.bl hall.size
  ·intro g e
   simp [Value.ownBlock] at e
   subst e
   rcases at6 with h' | h'
   ·exact .inl (by rw [← hm];exact h')
   ·right;omega
end Go.Proofs.YtplaamfoeaaaiaaGreatDoor
