/- The law TopLost is proved for every input (the tied card): a first block that is lost, or of which no more than two bytes come, is sent again, and the image is brought. Conditions: none. -/
import Derived.Test.YtplaamfoeaaaiaaGreatDoorK02
import Derived.Test.YtplaamfoeaaaiaaGreatDoorL01
set_option maxRecDepth 100000
set_option maxHeartbeats 8000000
set_option linter.unusedVariables false
namespace Go.Proofs.YtplaamfoeaaaiaaGreatDoor
open Go.RowKit
def actZ : Value := .agg #[.bool false,.int .u8 0,.bool false,.int .u8 0]
theorem infoAct : (Tryz.prog.info? 42).map (fun i => (i.zero,i.size,i.bytes)) = some (some actZ,4,4) := by kernel_rfl
theorem made15 : (madeCells #[.bool false,.int .u8 0,.bool false,.int .u8 0] ((15 + 0) * 4)).toList = actCells (List.replicate (15 + 0) act0) := by kernel_rfl
theorem made16 : (madeCells #[.bool false,.int .u8 0,.bool false,.int .u8 0] ((15 + 1) * 4)).toList = actCells (List.replicate (15 + 1) act0) := by kernel_rfl
theorem made17 : (madeCells #[.bool false,.int .u8 0,.bool false,.int .u8 0] ((15 + 2) * 4)).toList = actCells (List.replicate (15 + 2) act0) := by kernel_rfl
theorem made_acts (r : Nat) (hr : r ≤ 2) : (madeCells #[.bool false,.int .u8 0,.bool false,.int .u8 0] ((15 + r) * 4)).toList = actCells (List.replicate (15 + r) act0) := by
 have : r = 0 ∨ r = 1 ∨ r = 2 := by omega
 rcases this with rfl | rfl | rfl
 ·exact made15
 ·exact made16
 ·exact made17
theorem make_acts (w : World) (n : Nat) (hn : n ≤ 100) : (Instr.makeSlice 40 (.int .i64 (n : Int)) (.int .i64 (n : Int))).run Tryz.prog w = .ok (.slice (some ⟨w.heap.size,0,none⟩) n n) (w.alloc (.cells (madeCells #[.bool false,.int .u8 0,.bool false,.int .u8 0] (n * 4)) 42)) := by
 obtain ⟨i,hi,hz,hs,hb⟩ := info_parts infoAct
 have hmk := run_make (P := Tryz.prog) w 40 42 i actZ Tryz.underlying40 hi hz .i64 .i64 n n (by omega) (by omega) (by rw [hb];omega) (by omega)
 rw [hs] at hmk
 simp only [Int.toNat_natCast] at hmk
 exact hmk
theorem made_row {w : World} (r : Nat) (hr : r ≤ 2) : (w.alloc (.cells (madeCells #[.bool false,.int .u8 0,.bool false,.int .u8 0] ((15 + r) * 4)) 42)).ownsRow w.heap.size 42 4 (.slice (some ⟨w.heap.size,0,none⟩) (15 + r) (15 + r)) (15 + r) (actCells (List.replicate (15 + r) act0)) := by
 refine ⟨by rw [actCells_length,List.length_replicate],.inr ⟨w.heap.size,15 + r,_,rfl,Nat.le_refl _,heap_alloc_new w _,Nat.le_refl _,by unfold maxLen;omega,by rw [size_madeCells],?_⟩⟩
 rw [made_acts r hr,List.take_of_length_le (by rw [actCells_length,List.length_replicate];omega)]
def lostN (r n : Nat) : List M.WAct := List.replicate (15 + r) act0 ++ List.replicate (n - (15 + r)) actD
theorem lostN_len (r n : Nat) (h : 15 + r ≤ n) : (lostN r n).length = n := by simp [lostN];omega
theorem actCells_append : ∀ a c : List M.WAct,actCells (a ++ c) = actCells a ++ actCells c
 | [],c => rfl
 | x :: a,c => by simp [actCells,actCells_append a c]
theorem lostN_step (r n : Nat) (h : 15 + r ≤ n) : actCells (lostN r n) ++ [.bool true,.int .u8 0,.bool false,.int .u8 0] = actCells (lostN r (n + 1)) := by
 have e : n + 1 - (15 + r) = (n - (15 + r)) + 1 := by omega
 unfold lostN
 rw [e,List.replicate_succ',← List.append_assoc,actCells_append (List.replicate (15 + r) act0 ++ List.replicate (n - (15 + r)) actD) [actD]]
 rfl
theorem lostN_end (r : Nat) (h : r ≤ 2) : lostN r 148 = lostActs r := by
 unfold lostN lostActs
 have : 148 - (15 + r) = 133 - r := by omega
 rw [this]
theorem lostN_insert (r n : Nat) : ∀ y,y ∈ lostN r n → y.insert = false := by
 intro y hy
 unfold lostN at hy
 rw [List.mem_append,List.mem_replicate,List.mem_replicate] at hy
 rcases hy with ⟨_,rfl⟩ | ⟨_,rfl⟩ <;> rfl
theorem acts_in {w : World} {base n c : Nat} {a : Option Addr} {xs : List M.WAct} (h : w.ownsRow base 42 4 (.slice a n c) n (actCells xs)) (hx : xs.length = n) (h0 : 0 < n) : ActsIn w a n c xs := by
 obtain ⟨g,cap,hv,_,_⟩ := World.ownsRow.form h h0
 simp only [Value.slice.injEq] at hv
 obtain ⟨rfl,_,rfl⟩ := hv
 refine ⟨hx,.inr ⟨g,rfl,h0,fun k y hk => ?_⟩⟩
 obtain ⟨a0,a1,a2,a3⟩ := actCells_get xs k y hk
 have hkl := (List.getElem?_eq_some_iff.1 hk).1
 exact ⟨(h.cellAt (k * 4) (by omega)).trans a0,(h.cellAt (k * 4 + 1) (by omega)).trans a1,(h.cellAt (k * 4 + 2) (by omega)).trans a2,(h.cellAt (k * 4 + 3) (by omega)).trans a3⟩
theorem loadStr : strB (M.loadOf 1 4096) = .string ⟨#[108,111,97,100,32,99,114,99,32,49,48,48,48,13]⟩ := by
 have : M.loadOf 1 4096 = [108,111,97,100,32,99,114,99,32,49,48,48,48,13] := by decide +kernel
 rw [this]
theorem tlost_is (ba : Option Addr) (mb bc : Nat) (b : M.B) (sz fr : Nat) (u : UInt8) (w : World) (hb : Bytes w ba b) (hba : b = [] ∨ ∀ ad,ba = some ad → ad.block < w.heap.size) (hmb : b.length = mb) (hMb : mb ≤ 9223372036854775807) (hs : sz < 65536) (hr : fr < 256) (hg : Glob w) :
  Calls Tryz.prog 3 #[.slice ba mb bc,.int .u16 sz,.int .u8 fr,byteV u] w fun e w' => e = .returned (.bool true) ∧ Only [] w w' := by
 have HAW := LH (awake_is w hg)
 obtain ⟨sy,hsy⟩ : ∃ sy,sy = sz % 120 := ⟨_,rfl⟩
 have hsz : sy < 120 := by omega
 have hmodS : (sz : Int).tmod 120 = (sy : Int) := by rw [Int.tmod_eq_emod_of_nonneg (by omega)];omega
 have HON := LH (fun wx (o : Only [] w wx) => one_is ba mb bc b sy wx (hb.of_only o (.inr (fun ad e => by simp))) (hba.imp id (fun h ad e => Nat.lt_of_lt_of_le (h ad e) o.size)) hmb hMb (by omega))
 have HG := LH hg
 obtain ⟨r,hr3⟩ : ∃ r,r = fr % 3 := ⟨_,rfl⟩
 have hr2 : r ≤ 2 := by omega
 have hmodR : (fr : Int).tmod 3 = (r : Int) := by rw [Int.tmod_eq_emod_of_nonneg (by omega)];omega
 obtain ⟨k,hk⟩ : ∃ k,1 + sy % 1000 = k := ⟨_,rfl⟩
 have hk1 : 1 ≤ k := by omega
 have hk2 : k ≤ 1000 := by omega
 rw [hk] at HON
 obtain ⟨V,hV⟩ : ∃ V,V = 2 + u.toNat % 5 := ⟨_,rfl⟩
 have hV2 : 2 ≤ V := by omega
 have hV6 : V ≤ 6 := by omega
 have HE := LH (lost_ends V 1 b k r hk1 hk2 hV2 hV6 hr2)
 have HCF : Hid (∀ wx,Calls Tryz.prog 8 #[.int .u8 2,byteV u] wx fun e w' => e = .returned (.agg #[.int .i64 3,.int .i64 V,.int .i64 1,.int .i64 4096,.slice none 0 0]) ∧ Only [] wx w') := LH (fun wx => by
  have h := config_is 2 u wx
  have e1 : (cfgOf 2 u).tries = 3 := rfl
  have e2 : (cfgOf 2 u).wait = V := by rw [hV];rfl
  have e3 : triesOf 2 = 1 := by decide
  rw [e1,e2,e3] at h
  exact h)
 clear hb hba hmb hMb hg hsy hr3 hk hV
 go_enter Tryz.func3,Tryz.ntmps3
 go_upto_region 3 with (go_at_call 6;go_loud (refine HAW.out.mono ?_;rintro e w1 ⟨rfl,o1⟩;have H1 := LH o1;clear o1))
 go_upto_region 4 with (go_at_call 7;go_loud (refine (HON.out _ H1.out).mono ?_;rintro e w2 ⟨E,I,D,rfl,hDw,hE,hI,hD,o2⟩;have H2 := LH (AI (H1.out.trans o2) (AI hE (AI hI hD)));clear hDw hE hI hD o2))
 clear hmodS
 go_upto_region 5 with (go_at_call 8;go_loud (refine (HCF.out _).mono ?_;rintro e w3 ⟨rfl,o3⟩;have H3 := LH o3;clear o3))
 obtain ⟨C,hC⟩ : ∃ C,C = w3.heap.size := ⟨_,rfl⟩
 obtain ⟨w4,hw4⟩ : ∃ w4,w4 = w3.alloc (.cells #[.int .i64 3,.int .i64 V,.int .i64 1,.int .i64 4096,.slice none 0 0] 34) := ⟨_,rfl⟩
 have hC4 : w4.heap[C]? = some (.cells #[.int .i64 3,.int .i64 V,.int .i64 1,.int .i64 4096,.slice none 0 0] 34 (0,0)) := by rw [hw4,hC];exact heap_alloc_new w3 _
 have o24 : Only [] w2 w4 := by rw [hw4];exact H3.out.trans ((Only.refl [] w3).alloc _)
 rw [← hC,← hw4]
 have H4 := LH (AI (H2.out.1.trans o24) (AI hC4 (AI (o24.heap H2.out.2.1 (by simp)) (AI (o24.heap H2.out.2.2.1 (by simp)) (o24.heap H2.out.2.2.2 (by simp))))))
 clear hC hw4 o24 hC4
 have e1 : w4.cell? ⟨E,1,none⟩ = some (.int .i64 4096) := cell_at H4.out.2.2.1 (i := 1) rfl
 have e4 : w4.cell? ⟨E,4,none⟩ = some (.int .i64 1) := cell_at H4.out.2.2.1 (i := 4) rfl
 have HLD : Hid (∀ wx,Only [] w4 wx → Calls Tryz.prog 9 #[.int .i64 1,.int .i64 4096] wx fun e w' => e = .returned (.string ⟨#[108,111,97,100,32,99,114,99,32,49,48,48,48,13]⟩) ∧ Only [] wx w') := LH (fun wx o => by
  have h := load_any 1 4096 wx (HG.out.of_none (H4.out.1.trans o)).tabs (by decide) (by decide)
  rw [loadStr] at h
  exact h)
 have hw15 : IntKind.i64.wrap 15 = 15 := rfl
 go_region_held3 (fun w' => w'.cell? ⟨E,1,none⟩ = some (.int .i64 4096) ∧ w'.cell? ⟨E,4,none⟩ = some (.int .i64 1)) (first | exact ⟨e1,e4⟩ | exact ⟨o5.cell e1 (by simp),o5.cell e4 (by simp)⟩ | go_keep) ((go_at_call 9;go_loud (refine (HLD.out _ ((Only.refl [] w4).drew)).mono ?_;rintro e w5 ⟨rfl,o5'⟩;have o5 : Only [] w4 w5 := ((Only.refl [] w4).drew).trans o5')))
 rename_i hHeld
 clear hHeld e1 e4
 have H5 := LH o5
 clear o5 o5' hw15
 obtain ⟨n0,hn0⟩ : ∃ n0,n0 = 15 + r := ⟨_,rfl⟩
 have hadd : (15 : Int) + (r : Int) = (n0 : Int) := by omega
 have hmk := fun w => make_acts w n0 (by omega)
 have hN := LH hn0
 have hn1 : 15 ≤ n0 := by omega
 have hn2 : n0 ≤ 17 := by omega
 clear hn0
 go_upto_region 8 with fail
 obtain ⟨w6,hw6⟩ : ∃ w6,w6 = w5.alloc (.cells (madeCells #[.bool false,.int .u8 0,.bool false,.int .u8 0] (n0 * 4)) 42) := ⟨_,rfl⟩
 have hrow : w6.ownsRow w5.heap.size 42 4 (.slice (some ⟨w5.heap.size,0,none⟩) n0 n0) n0 (actCells (lostN r n0)) := by
  have h := made_row (w := w5) r hr2
  rw [← hN.out,← hw6] at h
  have e : lostN r n0 = List.replicate n0 act0 := by unfold lostN;rw [← hN.out,Nat.sub_self];simp
  rw [e]
  exact h
 have o56 : Only [] w5 w6 := by rw [hw6];exact (Only.refl [] w5).alloc _
 rw [← hw6]
 have H6 := LH (AI hrow o56)
 obtain ⟨Bs,hBs⟩ : ∃ Bs,Bs = w5.heap.size := ⟨_,rfl⟩
 rw [← hBs] at H6 ⊢
 have HBs := LH hBs
 clear hmk hw6 hrow o56 hadd hmodR hBs
 obtain ⟨i42,z0,z1,z2,z3⟩ := info_parts infoAct
 have HI := LH (AI z0 (AI z1 (AI z2 z3)))
 clear z0 z1 z2 z3
 go_loopw [14] (fun s14 wr => ∃ n av cv,s14 = .slice av n cv ∧ n0 ≤ n ∧ n ≤ 148 ∧ wr.ownsRow Bs 42 4 s14 n (actCells (lostN r n)) ∧ Only [] w5 wr) (fun s14 _ => match s14 with | .slice _ n _ => 148 - n | _ => 0)
 case atStart => exact ⟨n0,_,_,rfl,Nat.le_refl _,by omega,H6.out.1,H6.out.2⟩
 case round =>
  obtain ⟨n,av,cv,rfl,hn,hn8,hown,ho⟩ := hrel
  by_cases hlt : n < 148
  ·have HX := LH (AI hown ho)
   have hBw : Bs ≤ wr.heap.size := by have h1 := HBs.out;have h2 := ho.size;omega
   clear hown ho
   go_wp2_with (at_builtin;go_loud (refine wpList_appG _ rfl (.tmp 52) (.tmp 54) 40 rfl Bs 42 i42 actZ 4 4 Tryz.underlying40 HI.out.1 HI.out.2.1 HI.out.2.2.1 HI.out.2.2.2 rfl (by omega) (.slice av n cv) n (actCells (lostN r n)) rfl (HX.out.1.alloc _) (some ⟨wr.heap.size,0,none⟩) 1 1 rfl [.bool true,.int .u8 0,.bool false,.int .u8 0] rfl (fun e => by cases e) (fun ad e j u hj => by cases e;exact World.news_of_block (cs := #[.bool true,.int .u8 0,.bool false,.int .u8 0]) (t := 42) (fr := (0,0)) (heap_alloc_new wr _) j u hj) (by simp [Value.oneCell']) (by unfold maxLen;omega) (by omega) (by simp;omega) ?_;intro a8 c8 w8 own8 grow8 at8;rw [lostN_step r n (by have := hN.out;omega)] at own8;have o8 : Only [] w5 w8 := (HX.out.2.alloc _).grown grow8 (fun g e => .inr (by have h1 := (HX.out.1.lt g e).1;have h2 := HBs.out;omega));have H8 := LH (AI own8 o8);clear own8 grow8 at8 o8))
   exact ⟨⟨n + 1,a8,c8,rfl,by omega,by omega,H8.out.1,H8.out.2⟩,by simp only;omega⟩
  ·obtain rfl : n = 148 := by omega
   have hai := acts_in hown (lostN_len r 148 (by omega)) (by omega)
   rw [lostN_end r hr2] at hai
   have o4r : Only [] w4 wr := H5.out.trans ho
   have a0 : wr.cell? ⟨C,0,none⟩ = some (.int .i64 3) := o4r.cell (cell_at H4.out.2.1 (i := 0) rfl) (by simp)
   have a1 : wr.cell? ⟨C,1,none⟩ = some (.int .i64 V) := o4r.cell (cell_at H4.out.2.1 (i := 1) rfl) (by simp)
   have a2 : wr.cell? ⟨C,2,none⟩ = some (.int .i64 1) := o4r.cell (cell_at H4.out.2.1 (i := 2) rfl) (by simp)
   have a3 : wr.cell? ⟨C,3,none⟩ = some (.int .i64 4096) := o4r.cell (cell_at H4.out.2.1 (i := 3) rfl) (by simp)
   have a4 : wr.cell? ⟨C,4,none⟩ = some (.slice none 0 0) := o4r.cell (cell_at H4.out.2.1 (i := 4) rfl) (by simp)
   have o0r := H4.out.1.trans o4r
   have HOF : Hid (Calls Tryz.prog 10 #[.agg #[.int .i64 3,.int .i64 V,.int .i64 1,.int .i64 4096,.slice none 0 0],.slice (some ⟨E,0,none⟩) 1 1,.slice (some ⟨I,0,none⟩) 1 1,.slice av 148 cv,.slice none 0 0,.int .i64 0] wr (OneOf ⟨3,V⟩ 1 4096 ([oneRE b k].map RE.toM) (oneIm b k) (lostActs r) wr)) :=
    LH (one_of ⟨3,V⟩ 1 4096 b k E I D av 148 cv (lostActs r) wr (by unfold CfgOk;simp only;omega) (by omega) (by omega) (by omega) (by omega) hk1 hk2 (o4r.heap H4.out.2.2.1 (by simp)) (o4r.heap H4.out.2.2.2.1 (by simp)) (o4r.heap H4.out.2.2.2.2 (by simp)) (HG.out.of_none o0r) hai (by omega) (fun y hy => by rw [← lostN_end r hr2] at hy;exact lostN_insert r 148 y hy))
   have HX := LH (AI o0r (AI (o4r.heap H4.out.2.2.1 (by simp)) (AI (o4r.heap H4.out.2.2.2.1 (by simp)) (o4r.heap H4.out.2.2.2.2 (by simp)))))
   clear hai o4r o0r hown ho
   go_upto_region 11 with (go_at_call 10;go_loud (refine HOF.out.mono ?_;rintro e w7 ⟨W,H,T,DW,U,f,rfl,o7,hS,hf⟩;have H7 := LH (AI o7 (AI hS hf));clear o7 hS hf))
   clear a0 a1 a2 a3 a4
   have hrun := sysrun_is 90 W H T DW U f 0 _ w7 H7.out.2.1 (by omega) HE.out.1
   rw [HE.out.2.1,HE.out.2.2.1,show errV 0 = .nilIface from rfl] at hrun
   have HR := LH hrun
   clear hrun
   have hxe := fun w => eql_nn w
   go_upto_region 12 with (go_at_call 11;go_loud (refine HR.out.mono ?_;rintro e w8 ⟨rfl,f8,N8,hS8,ev8⟩;have H8 := LH (AI hS8 ev8);clear hS8 ev8))
   have hfar : ∀ {ad : Addr} {v : Value},wr.cell? ad = some v → w8.cell? ad = some v := fun {ad v} h => H8.out.2.only.cell (H7.out.1.cell h (by simp)) (fun hm => by have h1 := H7.out.2.2 _ hm;have h2 := World.block_lt_of_cell? wr _ h;omega)
   obtain ⟨pr,hpr⟩ : ∃ pr : Int,pr = (M.printOf (oneIm b k) : Int) := ⟨_,rfl⟩
   have e0 : w8.cell? ⟨E,0,none⟩ = some (.string ⟨#[102]⟩) := hfar (cell_at HX.out.2.1 (i := 0) rfl)
   have e1 : w8.cell? ⟨E,1,none⟩ = some (.int .i64 4096) := hfar (cell_at HX.out.2.1 (i := 1) rfl)
   have e2 : w8.cell? ⟨E,2,none⟩ = some (.int .i64 k) := hfar (cell_at HX.out.2.1 (i := 2) rfl)
   have e3 : w8.cell? ⟨E,3,none⟩ = some (.int .u32 pr) := by rw [hpr];exact hfar (cell_at HX.out.2.1 (i := 3) rfl)
   have e4 : w8.cell? ⟨E,4,none⟩ = some (.int .i64 1) := hfar (cell_at HX.out.2.1 (i := 4) rfl)
   have i0 : w8.cell? ⟨I,0,none⟩ = some (.slice (some ⟨D,0,none⟩) k 1024) := hfar (cell_at HX.out.2.2.1 (i := 0) rfl)
   have HH : Hid (∀ w7,Only [] w8 w7 → Calls Tryz.prog 12 #[.pointer (some ⟨W,0,none⟩),.agg #[.string ⟨#[102]⟩,.int .i64 4096,.int .i64 k,.int .u32 pr,.int .i64 1],.slice (some ⟨D,0,none⟩) k 1024] w7 fun e w' => e = .returned (.bool true) ∧ Only [] w7 w') := LH (fun w9 o => by
    have hby : Bytes w8 (some ⟨D,0,none⟩) (oneIm b k) := by
     refine one_bytes b k (by omega) ?_
     have h3 := H7.out.1.heap HX.out.2.2.2 (by simp)
     exact H8.out.2.only.heap h3 (fun hm => by have h1 := H7.out.2.2 _ hm;have h2 := heap_lt HX.out.2.2.2;omega)
    have h := holds_is [102] 4096 k pr 1 (some ⟨D,0,none⟩) k 1024 (oneIm b k) W H T DW U f8 N8 _ w9 (H8.out.1.of_none o) (hby.of_only o (.inr (fun ad e => by simp))) (oneIm_len b k (by omega)) (by omega) (by omega)
    rw [HE.out.2.2.2] at h
    exact h)
   have hfin : ∀ w9,Only [] w8 w9 → Only [] w w9 := fun w9 o => (Only.transFresh (HX.out.1.trans H7.out.1) H8.out.2.only (fun b hb => Nat.le_trans HX.out.1.size (H7.out.2.2 b hb))).trans o
   have HF := LH hfin
   clear hfin hpr hfar
   go_region_held3 (fun w' => w'.cell? ⟨E,0,none⟩ = some (.string ⟨#[102]⟩) ∧ w'.cell? ⟨E,1,none⟩ = some (.int .i64 4096) ∧ w'.cell? ⟨E,2,none⟩ = some (.int .i64 k) ∧ w'.cell? ⟨E,3,none⟩ = some (.int .u32 pr) ∧ w'.cell? ⟨E,4,none⟩ = some (.int .i64 1) ∧ w'.cell? ⟨I,0,none⟩ = some (.slice (some ⟨D,0,none⟩) k 1024)) (first | exact ⟨e0,e1,e2,e3,e4,i0⟩ | exact ⟨o9.cell e0 (by simp),o9.cell e1 (by simp),o9.cell e2 (by simp),o9.cell e3 (by simp),o9.cell e4 (by simp),o9.cell i0 (by simp)⟩ | go_keep) ((go_at_call 12;go_loud (refine (HH.out _ ((Only.refl [] w8).drew)).mono ?_;rintro e w9 ⟨rfl,o9'⟩;have o9 : Only [] w8 w9 := ((Only.refl [] w8).drew).trans o9')))
   rename_i hHeld
   clear hHeld e0 e1 e2 e3 e4 i0
   go_wp2_with fail
   go_ret
   exact ⟨rfl,HF.out _ o9⟩
end Go.Proofs.YtplaamfoeaaaiaaGreatDoor
namespace Go.Proofs.YtplaamfoeaaaiaaGreatDoor.topLost
open Go.ChangeShapes Go.WideShapes Go.ChangeAt Go.RowKit Go.Deep
theorem contract (H : Type) (enc : TypeId × Value → H) (W : World) (base : Nat) (args : Array Value) (ds gs : List (DataW H)) (before : List MemPlace) (hval : ∀ (j : Nat) t v,Tryz.f3.params[j]? = some t → args[j]? = some v → Value.okWide Tryz.prog W .any base t v) (hW : DataW.Whole enc Tryz.prog Tryz.f3.params.toList Rows.topLostSpec.vars false W args.toList ds gs before) (hL : laidMetH Tryz.prog lai.laidL W) (hS : W.ShapedOpen Tryz.prog) :
  Calls Tryz.prog 3 args W fun e W' => ∃ v,e = .returned v ∧ Rows.topLostSpec.post enc Tryz.prog Tryz.f3 false true false false W args v W' := by
 have hg := lai.glob_is hL hS
 have hW' := hW
 obtain ⟨p,q,hA0,hV,rfl,hfz,hnd⟩ := hW
 have hA : DataW.TrodAll enc Tryz.prog W 0 (fun _ => true) true Tryz.f3.params.toList args.toList ds p := hA0
 rw [Tryz.params3] at hA hval
 obtain ⟨v0,vs0,d0,ds0,p0,q0,hargs,rfl,rfl,h0,r0⟩ := trodAll_cons hA
 obtain ⟨v1,vs1,d1,ds1,p1,q1,rfl,rfl,rfl,h1,r1⟩ := trodAll_cons r0
 obtain ⟨v2,vs2,d2,ds2,p2,q2,rfl,rfl,rfl,h2,r2⟩ := trodAll_cons r1
 obtain ⟨v3,vs3,d3,ds3,p3,q3,rfl,rfl,rfl,h3,r3⟩ := trodAll_cons r2
 obtain ⟨rfl,rfl,rfl⟩ := trodAll_nil r3
 obtain rfl : args = #[v0,v1,v2,v3] := by cases args;simp_all
 obtain ⟨rfl,rfl⟩ := trodVars_none hV
 obtain ⟨ba,mb,bc,rfl⟩ := okWide_slice Tryz.underlying22 (hval 0 22 v0 rfl rfl)
 obtain ⟨a1,rfl,rfl,rfl,w1⟩ := open_int Tryz.underlying23 (hval 1 23 v1 rfl rfl) h1
 obtain ⟨a2,rfl,rfl,rfl,w2⟩ := open_int Tryz.underlying5 (hval 2 5 v2 rfl rfl) h2
 obtain ⟨a3,rfl,rfl,rfl,w3⟩ := open_int Tryz.underlying5 (hval 3 5 v3 rfl rfl) h3
 obtain ⟨sz,hs1,rfl⟩ := lrb.u16b w1
 obtain ⟨rm,hs2,rfl⟩ := lrb.u8b w2
 obtain ⟨jk,hs3,rfl⟩ := lrb.u8b w3
 have k0 := h0
 have lt0 : ∀ x ∈ p0,x.block < W.heap.size := by obtain ⟨m,hm⟩ := k0;exact DataW.trod_lt m _ _ _ hm
 obtain ⟨fuel0,h0'⟩ := h0
 obtain ⟨bp,bm,bcp,bs,b1,b2,b3,b4,b5,b6,b7⟩ := lrb.bytes_open (c := .slice ba mb bc) (by simpa [Value.cells] using h0')
 simp only [Value.slice.injEq] at b1
 obtain ⟨rfl,rfl,rfl⟩ := b1
 have hby : (Value.int .u8 (jk : Int)) = byteV (UInt8.ofNat jk) := by
  unfold byteV
  rw [UInt8.toNat_ofNat',Nat.mod_eq_of_lt (by omega)]
 have wk : Calls Tryz.prog 3 #[.slice ba mb bc,.int .u16 sz,.int .u8 rm,.int .u8 jk] W fun e w' => e = .returned (.bool true) ∧ Only [] W w' := by
  rw [hby]
  exact (tlost_is ba mb bc bs sz rm (UInt8.ofNat jk) W b3 (by
  by_cases hb : bs = []
  ·exact .inl hb
  ·exact .inr (fun ad e => b7 ad e hb)) b2 (by unfold maxLen at b5;omega) hs1 hs2 hg)
 refine wk.mono fun e W' ⟨he,ho⟩ => ?_
 have bel := lai.only_below ho
 subst he
 exact ⟨_,rfl,_,_,_,[],_,[],hW',trodAll_mk1 (shut_bool Tryz.underlying4 _),(trodAll_cons_mk (Below.trod lai.laidOut (by kernel_rfl) (of_decide_eq_true (by kernel_rfl)) k0 bel lt0) (trodAll_cons_mk (shut_int Tryz.underlying23 w1) (trodAll_cons_mk (shut_int Tryz.underlying5 w2) (trodAll_cons_mk (shut_int Tryz.underlying5 w3) trodAll_mk0)))),rfl,bel.frame _,fun h => by cases h⟩
abbrev wArgs : Array Value := #[.slice none 0 0,.int .u16 0,.int .u8 0,.int .u8 0]
theorem reads (os : Os) {H : Type} (enc : TypeId × Value → H) : ∃ places,DataW.whole enc Tryz.prog ((lai.laidWorld os).forCall (fun _ _ => 0) ⟨#[],wArgs,[]⟩).memory Tryz.f3.params.toList Rows.topLostSpec.vars false wArgs.toList 8 = some ([.nil,.lit (.int .u16 0),.lit (.int .u8 0),.lit (.int .u8 0)],[],places) :=
 ⟨[],by kernel_rfl⟩
theorem lifted (os : Os) (started : os.Started) (H : Type) (enc : TypeId × Value → H) (F : Stop.Interp) :
  ReturnsInHanded {} Tryz.checked os 3 .any ((OpenSpec.ofChange Rows.topLostSpec).preRow enc Tryz.prog Tryz.f3 Rows.topLostRow.domain false Rows.topLostRow.laid) (((OpenSpec.ofChange Rows.topLostSpec).at F).post enc Tryz.prog Tryz.f3 false true false false) := by
 obtain ⟨places,hx⟩ := reads os enc
 refine returnsInHanded_of_row (C := Tryz.checked) (s := OpenSpec.ofChange Rows.topLostSpec) lai.own started (by kernel_rfl) Tryz.func3 (witness_row_atRef (enc := enc) (C := Tryz.checked) false (lai.laidWorld os) wArgs rfl (by kernel_rfl) (by kernel_rfl) (by kernel_rfl) (OpenSpec.preRow_of_cond 8 hx (by kernel_rfl) (fun k hk => by cases hk) (by kernel_rfl) (lai.laid_met os wArgs))) ?_
 intro W base args ds gs before hval hW _ _ _ hL hS _
 exact contract H enc W base args ds gs before hval hW hL hS
theorem said : Rows.TopLostSaid :=
 OpenClaim.holds_of_cond 3 Tryz.f3 rfl rfl rfl rfl rfl rfl rfl ⟨rfl,rfl,rfl,rfl,rfl⟩ rfl rfl rfl rfl rfl (by kernel_rfl) Tryz.func3 (by kernel_rfl) (of_decide_eq_true (by kernel_rfl)) (by unfold Func.isWrapper;first | (rw [if_pos (by decide +kernel)];kernel_rfl) | (rw [if_neg (by decide +kernel)];exact ⟨rfl,rfl⟩)) (fun os started H enc _ F => by rw [OpenClaim.pre_eq_preRow];exact lifted os started H enc F)
theorem plain (f : FuncId) (fn : Func) (hf : Tryz.pinned.checked.prog.funcNamed "lifeline/lifelinetop.TopLost" = some f) (hfn : Tryz.pinned.checked.prog.funcs[f]? = some fn) :
  true = Tryz.pinned.checked.prog.looks [] ∧ ∀ (j : Nat) t,fn.params[j]? = some t → Tryz.pinned.checked.prog.wantsStandIn t = false := by
 obtain rfl : f = 3 := Option.some.inj ((show Tryz.prog.funcNamed "lifeline/lifelinetop.TopLost" = some 3 by kernel_rfl).symm.trans hf) |>.symm
 obtain rfl : fn = Tryz.f3 := (Option.some.inj (Tryz.func3.symm.trans hfn)).symm
 refine ⟨by kernel_rfl,fun j t ht => ?_⟩
 rw [Tryz.params3] at ht
 have hm : t ∈ [22,23,5,5] := by simpa using Array.mem_of_getElem? ht
 have hall : ([22,23,5,5].all fun u => !Tryz.prog.wantsStandIn u) = true := by kernel_rfl
 exact (show Tryz.prog.wantsStandIn t = false by simpa using List.all_eq_true.1 hall t hm)
theorem proved : Rows.TopLostCardSaid :=
 Claim7.holds_tied_plain_at .later [] _ _ _ _ said (fun _ h => by cases h) (by kernel_rfl) (fun _ h => by cases h) topLost_row_tie rfl ⟨rfl,rfl⟩ (by kernel_rfl) rfl plain (by kernel_rfl)
end Go.Proofs.YtplaamfoeaaaiaaGreatDoor.topLost
