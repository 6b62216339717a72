/- A part of the proofs of the laws of lifelinetop (TopNever, TopLost, TopRoom): contracts of functions that these laws reach. No condition of its own. -/
import Derived.Test.YtplaamfoeaaaiaaGreatDoorK02
import Derived.Test.YtplaamfoeaaaiaaGreatDoorK35
set_option maxRecDepth 100000
set_option maxHeartbeats 8000000
set_option linter.unusedVariables false
namespace Go.Proofs.YtplaamfoeaaaiaaGreatDoor
open Go.RowKit
abbrev hear (x : M.Host) : M.Host := { x with heard := x.heard + 1 }
def WatchOk (y : M.Watch) : Prop := y.over = false ∧ ∀ l,l ∈ y.lits → 0 < l.length
def SndFine : M.Giver → Prop
 | .none => False
 | .one s => Fine s
 | .batch s => s.over = false → Fine s.part
def M.Giver.put (c : UInt8) : M.Giver → M.B × M.Giver
 | .none => ([],.none)
 | .one s => ((s.put c).1,.one (s.put c).2)
 | .batch s => ((s.put c).1,.batch (s.put c).2)
def M.Giver.tick : M.Giver → M.B × M.Giver
 | .none => ([],.none)
 | .one s => (s.tick.1,.one s.tick.2)
 | .batch s => (s.tick.1,.batch s.tick.2)
abbrev gave (x : M.Host) (r : M.B × M.Giver) : M.Host := ({ x with giver := r.2 } : M.Host).send r.1
inductive TakeOk (x : M.Host) (c : UInt8) : Prop where
 | over : x.phase = 7 → TakeOk x c
 | hears : x.phase = 0 → x.playState = 0 → WatchOk x.playW → (x.playW.put c).1 = none → TakeOk x c
 | wakes : x.phase = 0 → x.playState = 0 → WatchOk x.playW → (x.playW.put c).1 = some 0 → LoadOk { hear x with playW := (x.playW.put c).2,playState := 1 } → TakeOk x c
 | gives : x.phase = 1 → SndFine x.giver → (x.giver.put c).1.length ≤ 2000 → SentOk (gave (hear x) (x.giver.put c)) → TakeOk x c
 | waits : (x.phase = 2 ∨ x.phase = 3 ∨ x.phase = 4) → WatchOk x.watch → (x.watch.put c).1 = none → TakeOk x c
 | meets (k : Nat) : (x.phase = 2 ∨ x.phase = 3 ∨ x.phase = 4) → WatchOk x.watch → (x.watch.put c).1 = some k → MetOk { hear x with watch := (x.watch.put c).2 } k → TakeOk x c
theorem take_over (x : M.Host) (c : UInt8) (h : x.phase = 7) : x.take c = hear x := by
 unfold M.Host.take
 dsimp only
 rw [if_pos (by omega)]
theorem take_hears (x : M.Host) (c : UInt8) (h : x.phase = 0) (hp : x.playState = 0) (hn : (x.playW.put c).1 = none) : x.take c = { hear x with playW := (x.playW.put c).2 } := by
 have hw : ∀ y : M.Host,y.playState = 0 → y.woken = y := fun y e => by unfold M.Host.woken;rw [if_neg (by omega),if_neg (by omega)]
 unfold M.Host.take
 dsimp only
 rw [if_neg (by omega),if_pos h,if_neg (by simp [hp])]
 cases hq : x.playW.put c with
 | mk a b =>
  rw [hq] at hn
  simp only at hn
  subst hn
  exact hw _ hp
theorem take_wakes (x : M.Host) (c : UInt8) (h : x.phase = 0) (hp : x.playState = 0) (hn : (x.playW.put c).1 = some 0) : x.take c = ({ hear x with playW := (x.playW.put c).2,playState := 1 } : M.Host).woken := by
 unfold M.Host.take
 dsimp only
 rw [if_neg (by omega),if_pos h,if_neg (by simp [hp])]
 cases hq : x.playW.put c with
 | mk a b =>
  rw [hq] at hn
  simp only at hn
  subst hn
  rfl
theorem take_gives (x : M.Host) (c : UInt8) (h : x.phase = 1) (hg : SndFine x.giver) : x.take c = (gave (hear x) (x.giver.put c)).sent := by
 unfold M.Host.take
 dsimp only
 rw [if_neg (by omega),if_neg (by omega),if_pos h]
 cases hq : x.giver with
 | none => rw [hq] at hg;exact absurd hg (by simp [SndFine])
 | one s => rfl
 | batch s => rfl
theorem take_waits (x : M.Host) (c : UInt8) (h : x.phase = 2 ∨ x.phase = 3 ∨ x.phase = 4) (hn : (x.watch.put c).1 = none) : x.take c = { hear x with watch := (x.watch.put c).2 } := by
 unfold M.Host.take
 dsimp only
 rw [if_neg (by omega),if_neg (by omega),if_neg (by omega)]
 cases hq : x.watch.put c with
 | mk a b =>
  rw [hq] at hn
  simp only at hn
  subst hn
  rfl
theorem take_meets (x : M.Host) (c : UInt8) (k : Nat) (h : x.phase = 2 ∨ x.phase = 3 ∨ x.phase = 4) (hn : (x.watch.put c).1 = some k) : x.take c = ({ hear x with watch := (x.watch.put c).2 } : M.Host).met k := by
 unfold M.Host.take
 dsimp only
 rw [if_neg (by omega),if_neg (by omega),if_neg (by omega)]
 cases hq : x.watch.put c with
 | mk a b =>
  rw [hq] at hn
  simp only at hn
  subst hn
  rfl
theorem HostAt.heardRow {w w2 : World} {H : Nat} {z : HV} {f : Nat → List Nat} {x : M.Host} (h : HostAt w H z f x) {a' : Option Addr} {c' n : Nat} {c : UInt8} {o : Obj} (hn : x.heard = n) (own2 : w2.ownsRow (H + 1) 5 1 (.slice a' (n + 1) c') (n + 1) ((z.hs ++ [c]).map byteV)) (grow2 : (w.alloc o).grownBy w2 (Value.slice z.ha n z.hc).ownBlock) (at2 : ∀ g',(Value.slice a' (n + 1) c').ownBlock = some g' → (Value.slice z.ha n z.hc).ownBlock = some g' ∨ (w.alloc o).heap.size ≤ g') :
  Only (H :: f 8) w (w2.setCell ⟨H,16,none⟩ (.slice a' (n + 1) c')) ∧ (w2.setCell ⟨H,16,none⟩ (.slice a' (n + 1) c')).heap[H]? = some (.cells (hostZ { z with ha := a',hc := c',hs := z.hs ++ [c] } (hear x)) 96 (0,0)) ∧
   RowAt (w2.setCell ⟨H,16,none⟩ (.slice a' (n + 1) c')) (H + 1) a' c' (z.hs ++ [c]) ∧ (z.hs ++ [c]).length = x.heard + 1 ∧ Grow (f 8) (ownL (.slice a' (x.heard + 1) c')) w := by
 subst hn
 obtain ⟨hrow,hhl,h8⟩ := h.parts.heard (by decide)
 have hnH : H ∉ ownL (.slice z.ha x.heard z.hc) := by rw [← h8];exact h.notH (by decide)
 have o2 : Only (ownL (.slice z.ha x.heard z.hc)) w w2 := (((Only.refl [] w).alloc o).weaken (by simp)).trans (only_grown grow2)
 have h2 := o2.heap h.str hnH
 have hlen : (z.hs ++ [c]).length = x.heard + 1 := by simp [hhl]
 refine ⟨(o2.weaken (fun b hb => List.mem_cons_of_mem _ (by rw [h8];exact hb))).trans ((only_set w2 H 16 _).weaken (by simp)),hs_same h2 rfl,?_,hlen,fun b hb => ?_⟩
 ·have o3 := ownsRow_only own2 (only_set w2 H 16 (.slice a' (x.heard + 1) c')) (fun g e => by have := (own2.lt g e).1;simp;omega)
  rw [← hlen] at o3 ⊢
  exact o3
 ·rw [h8]
  refine (at2 b (mem_ownL.1 hb)).imp mem_ownL.2 (fun h => ?_)
  have : (w.alloc o).heap.size = w.heap.size + 1 := by simp
  omega
theorem turns_all (F : BsF) (f : List Nat) (hf : f = F.all) : ∀ b,b ∈ F.turns → b ∈ f := fun b hb => by
 rw [hf]
 simp only [BsF.turns,BsF.all,List.mem_cons,List.not_mem_nil,or_false] at hb ⊢
 rcases hb with h | h | h | h <;> simp [h]
structure GS (w : World) (fp : List Nat) : Prop where
 glob : Glob w
 sep : Sep fp glb
theorem GS.ev {w w' : World} {f f' : List Nat} (h : GS w f) (e : Ev w w' f f') : GS w' f' := ⟨h.glob.of_ev h.sep e,h.sep.ev e h.glob⟩
theorem woken_zero (x : M.Host) (h : x.playState = 0) : x.woken = x := by
 unfold M.Host.woken
 rw [if_neg (by omega),if_neg (by omega)]
theorem hsend_nil (H : Nat) (fp : List Nat) (x : M.Host) (w : World) (h : HostIs w H fp x) (hN : x.out.length ≤ 1000000) :
  Calls Tryz.prog 44 #[.pointer (some ⟨H,0,none⟩),.slice none 0 0] w (HPost w H fp x) := by
 have := hsend_is none 0 0 [] H fp x w h ⟨fun _ => rfl,fun _ e => by cases e⟩ rfl (fun _ => rfl) (by omega)
 rwa [hostsend_nil] at this
theorem htake_is (c : UInt8) (H : Nat) (fp : List Nat) (x : M.Host) (w : World) (h : HostIs w H fp x) (hgl : Glob w) (hS : Sep fp glb) (hn : x.heard ≤ 1000000) (hol : x.out.length ≤ 800000) (hk : TakeOk x c) :
  Calls Tryz.prog 69 #[.pointer (some ⟨H,0,none⟩),byteV c] w (HPost w H fp (x.take c)) := by
 obtain ⟨z,f,rfl,h⟩ := h
 obtain ⟨hrow,hhl,h8⟩ := h.parts.heard (by decide)
 obtain ⟨n,hxn⟩ : ∃ n,x.heard = n := ⟨_,rfl⟩
 have c16 : w.cell? ⟨H,16,none⟩ = some (.slice z.ha n z.hc) := by rw [← hxn];exact cell_at h.str rfl
 have f16 : w.frozen? ⟨H,16,none⟩ = false := free_at h.str
 have hH := h.hlt
 have hnH : H ∉ ownL (.slice z.ha n z.hc) := by rw [← hxn,← h8];exact h.notH (by decide)
 have hstr : w.heap[H]? = some (.cells ((hostZ z x).setIfInBounds 16 (.slice z.ha n z.hc)) 96 (0,0)) := by rw [← hxn];exact h.str
 unfold RowAt at hrow
 rw [hhl,hxn] at hrow
 rw [hxn] at hn
 have HH := LH (AI h (AI hgl (AI hS (AI hk (AI hxn (AI hrow (AI hnH hstr)))))))
 clear h hgl hS hk hxn hrow hhl h8 hnH hstr
 go_enter Tryz.func69,Tryz.ntmps69
 go_upto_region 1 with (at_builtin;go_loud (refine wpList_appAt _ rfl (.tmp 10) (.tmp 12) rfl (H + 1) (.slice z.ha n z.hc) n z.hs rfl (ownsRow_only HH.out.2.2.2.2.2.1 ((Only.refl [] w).alloc _) (by simp)) (some ⟨w.heap.size,0,none⟩) 1 1 [c] rfl (bytes1 w c _ rfl) rfl (fun e => by cases e) (z.hs ++ [c]) rfl (n + 1) rfl (by omega) (by simp;omega) ?_;intro a' c' w2 own2 grow2 at2;have h2 := ((((Only.refl [] w).alloc (.cells #[byteV c] 5)).weaken (by simp)).trans (only_grown grow2)).heap HH.out.2.2.2.2.2.2.2 HH.out.2.2.2.2.2.2.1;have c2 : w2.cell? ⟨H,16,none⟩ = some (.slice z.ha n z.hc) := cell_at h2 rfl;have f2 : w2.frozen? ⟨H,16,none⟩ = false := free_at h2;have H2 := LH (AI own2 (AI grow2 at2));clear h2 own2 grow2 at2))
 obtain ⟨p1,p2,p3,p4,p5⟩ := HH.out.1.heardRow HH.out.2.2.2.2.1 H2.out.1 H2.out.2.1 H2.out.2.2
 obtain ⟨w3,hw3⟩ : ∃ w3,w3 = w2.setCell ⟨H,16,none⟩ (.slice a' (n + 1) c') := ⟨_,rfl⟩
 rw [← hw3] at p1 p2 p3
 rw [← hw3]
 obtain ⟨hd0,h7⟩ := HH.out.1.parts.demux (by decide)
 have hs78 : Sep (f 7) (H :: f 8) := (HH.out.1.sepH (by decide)).head (HH.out.1.sep (by decide))
 rw [h7] at hs78
 have hd3 := hd0.of_only p1 (hs78 _ (by simp)) (fun g e => hs78 _ (List.mem_cons_of_mem _ (mem_ownL.2 e)))
 have c15 : w3.cell? ⟨H,15,none⟩ = some (.pointer (some ⟨z.Dm,0,none⟩)) := cell_at p2 rfl
 have hD := dput_any z.Dm z.db z.dv z.mode x.heard z.ss (c.toNat : Int) w3 hd3 (by rw [HH.out.2.2.2.2.1];omega)
 have H3 := LH (AI hD (AI p1 (AI p2 (AI p3 (AI p4 p5)))))
 clear hD p1 p2 p3 p4 p5 hw3 hd0 h7 hs78 hd3 c2 f2 c16 f16
 go_upto_region 2 with (go_at_call 93;go_loud (refine H3.out.1.mono ?_;rintro e w4 ⟨v',ss',rfl,hd4,o4,hg4⟩;have H4 := LH (AI hd4 (AI o4 hg4));clear hd4 o4 hg4))
 obtain ⟨_,p1,p2,p3,p4,p5⟩ := H3.out
 obtain ⟨fp4,hI4,ev4⟩ := HH.out.1.takes p1 p2 p3 p4 p5 H4.out.2.1 H4.out.1 H4.out.2.2
 obtain ⟨z4,f4,rfl,h4⟩ := id hI4
 have c7 : w4.cell? ⟨H,7,none⟩ = some (.int .i64 x.phase) := cell_at h4.str rfl
 have gs4 := (GS.mk HH.out.2.1 HH.out.2.2.1).ev ev4
 have HJ := LH (AI hI4 (AI ev4 (AI gs4 h4)))
 clear p1 p2 p3 p4 p5 hI4 ev4 gs4 h4 c15
 have hk := HH.out.2.2.2.1
 cases hk with
 | over hp =>
  have hx := take_over x c hp
  rw [hp] at c7
  have HX := LH hx
  clear hp hx
  go_wp2_with fail
  go_end0
  rw [HX.out]
  exact ⟨rfl,_,HJ.out.1,HJ.out.2.1⟩
 | hears hp hs hw hn' =>
  have hx := take_hears x c hp hs hn'
  rw [hp] at c7
  have c10 : w4.cell? ⟨H,10,none⟩ = some (.pointer (some ⟨z4.P,0,none⟩)) := cell_at HJ.out.2.2.2.str rfl
  have hP := pput_none z4.P (f4 3) x.playLeft x.playW c w4 ((HJ.out.2.2.2.parts.play (by decide)).1 hs) hw.1 hw.2 hn'
  have HX := LH (AI hx (AI hP hs))
  clear hp hx hP hs hw hn'
  go_wp2_with (first
   | (go_at_call 94;go_loud (refine HX.out.2.1.mono ?_;rintro e w5 ⟨rfl,l5,hl5,e5⟩;obtain ⟨j1,j2⟩ := HJ.out.2.2.2.plays (x.playW.put c).2 x.playLeft x.playState e5 hl5.live ⟨fun _ => hl5,fun e => by have := HX.out.2.2;simp only at e;omega⟩;have H5 := LH (AI j1 j2);clear hl5 e5 j1 j2))
   | (go_at_call 44;go_loud (refine (hsend_nil H _ _ w5 ⟨_,_,rfl,H5.out.1⟩ (by show x.out.length ≤ _;omega)).mono ?_;rintro e w6 ⟨rfl,fp6,h6,e6⟩;have H6 := LH (AI h6 e6);clear h6 e6))
   | (go_at_call 45;go_loud (refine (hwoken_is H fp6 _ w6 H6.out.1 ((HJ.out.2.2.1.ev H5.out.2).ev H6.out.2).glob ((HJ.out.2.2.1.ev H5.out.2).ev H6.out.2).sep (.inl HX.out.2.2)).mono ?_;rintro e w7 ⟨rfl,hq⟩)))
  go_end0
  rw [woken_zero ({ hear x with playW := (x.playW.put c).2 } : M.Host) HX.out.2.2] at hq
  rw [HX.out.1]
  exact HPost.after (w1 := w6) ⟨rfl,hq⟩ ((HJ.out.2.1.trans H5.out.2).trans H6.out.2)
 | wakes hp hs hw hn' hl =>
  have hx := take_wakes x c hp hs hn'
  rw [hp] at c7
  have c10 : w4.cell? ⟨H,10,none⟩ = some (.pointer (some ⟨z4.P,0,none⟩)) := cell_at HJ.out.2.2.2.str rfl
  have hLi := (HJ.out.2.2.2.parts.play (by decide)).1 hs
  have hPm : z4.P ∈ f4 3 := by
   obtain ⟨_,_,_,_,_,_,_,e,_⟩ := hLi
   rw [e];simp
  have hP := pput_some z4.P (f4 3) x.playLeft x.playW c w4 hLi hw.1 hw.2 hn'
  have HX := LH (AI hx (AI hP (AI hPm hl)))
  clear hp hx hP hs hw hn' hLi hPm hl
  go_wp2_with (first
   | (go_at_call 94;go_loud (refine HX.out.2.1.mono ?_;rintro e w5 ⟨rfl,hl5,o5⟩;obtain ⟨j1,j2⟩ := HJ.out.2.2.2.plays (x.playW.put c).2 x.playLeft 1 (Ev.of_only o5 (fun b hb => hb)) ((HJ.out.2.2.2.live 3).ev o5.size) ⟨fun e => by simp at e,fun _ => ⟨HX.out.2.2.1,hl5⟩⟩;have H5 := LH (AI j1 j2);clear hl5 o5 j1 j2))
   | (go_at_call 44;go_loud (refine (hsend_nil H _ _ w5 ⟨_,_,rfl,H5.out.1⟩ (by show x.out.length ≤ _;omega)).mono ?_;rintro e w6 ⟨rfl,fp6,h6,e6⟩;have H6 := LH (AI h6 e6);clear h6 e6))
   | (go_at_call 45;go_loud (refine (hwoken_is H fp6 _ w6 H6.out.1 ((HJ.out.2.2.1.ev H5.out.2).ev H6.out.2).glob ((HJ.out.2.2.1.ev H5.out.2).ev H6.out.2).sep (.inr ⟨rfl,HX.out.2.2.2⟩)).mono ?_;rintro e w7 ⟨rfl,hq⟩)))
  go_end0
  rw [HX.out.1]
  exact HPost.after (w1 := w6) ⟨rfl,hq⟩ ((HJ.out.2.1.trans H5.out.2).trans H6.out.2)
 | gives hp hg hl hs =>
  have hx := take_gives x c hp hg
  rw [hp] at c7
  have hgi := HJ.out.2.2.2.parts.giver (by decide)
  have c11 : w4.cell? ⟨H,11,none⟩ = some z4.giver := cell_at HJ.out.2.2.2.str rfl
  cases hgv : x.giver with
  | none => rw [hgv] at hg;exact absurd hg (by simp [SndFine])
  | one s =>
   have hgi' : GiverIs w4 z4.giver (f4 4) (.one s) := hgv ▸ hgi
   rw [hgv] at hg hl hs hx
   obtain ⟨S,ro,e,hf4,hsn⟩ := hgi'
   rw [e] at c11
   have hm := fun w => m205_Put S w
   have hP := sput_any S ro s c w4 hsn hg
   have HX := LH (AI hx (AI hP (AI e (AI hf4 hs))))
   clear hp hx hP hg hs hgv hgi hsn hf4 e
   simp only [M.Giver.put] at hl
   go_wp2_with (first
    | (go_at_call 227;go_loud (refine HX.out.2.1.mono ?_;rintro e w5 ⟨v,rfl,hv5,hs5,o5⟩;obtain ⟨a5,c5,rfl,b5,_,n5,_⟩ := hv5.read;obtain ⟨j1,j2⟩ := HJ.out.2.2.2.gives (.one (s.put c).2) (o5.weaken (fun b hb => by rw [HX.out.2.2.2.1];simp at hb;simp [hb])) ⟨S,ro,HX.out.2.2.1,HX.out.2.2.2.1,hs5⟩;have H5 := LH (AI j1 (AI j2 (AI b5 n5)));clear hs5 o5 j1 j2 b5 n5 hv5))
    | (go_at_call 44;go_loud (refine (hsend_is a5 (s.put c).1.length c5 (s.put c).1 H _ _ w5 ⟨_,_,rfl,H5.out.1⟩ H5.out.2.2.1 rfl H5.out.2.2.2 (by show x.out.length + _ ≤ _;omega)).mono ?_;rintro e w6 ⟨rfl,fp6,h6,e6⟩;have H6 := LH (AI h6 e6);clear h6 e6))
    | (go_at_call 71;go_loud (refine (hsent_is H fp6 _ w6 H6.out.1 HX.out.2.2.2.2).mono ?_;rintro e w7 ⟨rfl,hq⟩)))
   go_end0
   rw [HX.out.1]
   exact HPost.after (w1 := w6) ⟨rfl,hq⟩ ((HJ.out.2.1.trans H5.out.2.1).trans H6.out.2)
  | batch s =>
   have hgi' : GiverIs w4 z4.giver (f4 4) (.batch s) := hgv ▸ hgi
   rw [hgv] at hg hl hs hx
   obtain ⟨F,e,hf4,hsn⟩ := hgi'
   rw [e] at c11
   have hm := fun w => m199_Put F.X w
   have hP := bsput_any F s c w4 hsn hg
   have HX := LH (AI hx (AI hP (AI e (AI hf4 hs))))
   clear hp hx hP hg hs hgv hgi hsn hf4 e
   simp only [M.Giver.put] at hl
   go_wp2_with (first
    | (go_at_call 224;go_loud (refine HX.out.2.1.mono ?_;rintro e w5 ⟨v,rfl,hv5,hs5,o5⟩;obtain ⟨a5,c5,rfl,b5,_,n5,_⟩ := hv5.read;obtain ⟨j1,j2⟩ := HJ.out.2.2.2.gives (.batch (s.put c).2) (o5.weaken (turns_all F (f4 4) HX.out.2.2.2.1)) ⟨F,HX.out.2.2.1,HX.out.2.2.2.1,hs5⟩;have H5 := LH (AI j1 (AI j2 (AI b5 n5)));clear hs5 o5 j1 j2 b5 n5 hv5))
    | (go_at_call 44;go_loud (refine (hsend_is a5 (s.put c).1.length c5 (s.put c).1 H _ _ w5 ⟨_,_,rfl,H5.out.1⟩ H5.out.2.2.1 rfl H5.out.2.2.2 (by show x.out.length + _ ≤ _;omega)).mono ?_;rintro e w6 ⟨rfl,fp6,h6,e6⟩;have H6 := LH (AI h6 e6);clear h6 e6))
    | (go_at_call 71;go_loud (refine (hsent_is H fp6 _ w6 H6.out.1 HX.out.2.2.2.2).mono ?_;rintro e w7 ⟨rfl,hq⟩)))
   go_end0
   rw [HX.out.1]
   exact HPost.after (w1 := w6) ⟨rfl,hq⟩ ((HJ.out.2.1.trans H5.out.2.1).trans H6.out.2)
 | waits hp hw hn' =>
  have hx := take_waits x c hp hn'
  obtain ⟨W,hzw,hWt⟩ := HJ.out.2.2.2.parts.watch (by decide) (by show x.phase ≠ 0;omega) (by show x.phase ≠ 1;omega) (by show x.phase ≠ 5;omega) (by show x.phase ≠ 7;omega)
  have c12 : w4.cell? ⟨H,12,none⟩ = some (.pointer (some ⟨W,0,none⟩)) := by rw [← hzw];exact cell_at HJ.out.2.2.2.str rfl
  have hP := wput_w W (f4 5) x.watch c w4 hWt hw.1 hw.2
  rw [hn'] at hP
  change Calls Tryz.prog 95 _ w4 (fun e w' => e = .returned (.tuple #[.int .i64 0,.bool false]) ∧ ∃ fp',Watched w' W fp' (x.watch.put c).2 ∧ Ev w4 w' (f4 5) fp') at hP
  have HX := LH (AI hx (AI hP hzw))
  clear hx hP hzw hWt hw hn'
  obtain ⟨ph,hph⟩ : ∃ ph,x.phase = ph := ⟨_,rfl⟩
  rw [hph] at c7 hp
  clear hph
  rcases hp with rfl | rfl | rfl
  all_goals
   go_wp2_with (go_at_call 95;go_loud (refine HX.out.2.1.mono ?_;rintro e w5 ⟨rfl,l5,hw5,e5⟩;obtain ⟨j1,j2⟩ := HJ.out.2.2.2.watches _ e5 HX.out.2.2 hw5;have H5 := LH (AI j1 j2);clear hw5 e5 j1 j2))
   go_end0
   rw [HX.out.1]
   exact ⟨rfl,_,⟨_,_,rfl,H5.out.1⟩,HJ.out.2.1.trans H5.out.2⟩
 | meets k hp hw hn' hm =>
  have hx := take_meets x c k hp hn'
  obtain ⟨W,hzw,hWt⟩ := HJ.out.2.2.2.parts.watch (by decide) (by show x.phase ≠ 0;omega) (by show x.phase ≠ 1;omega) (by show x.phase ≠ 5;omega) (by show x.phase ≠ 7;omega)
  have c12 : w4.cell? ⟨H,12,none⟩ = some (.pointer (some ⟨W,0,none⟩)) := by rw [← hzw];exact cell_at HJ.out.2.2.2.str rfl
  have hP := wput_w W (f4 5) x.watch c w4 hWt hw.1 hw.2
  rw [hn'] at hP
  change Calls Tryz.prog 95 _ w4 (fun e w' => e = .returned (.tuple #[.int .i64 k,.bool true]) ∧ ∃ fp',Watched w' W fp' (x.watch.put c).2 ∧ Ev w4 w' (f4 5) fp') at hP
  have HX := LH (AI hx (AI hP (AI hzw hm)))
  clear hx hP hzw hWt hw hn' hm
  obtain ⟨ph,hph⟩ : ∃ ph,x.phase = ph := ⟨_,rfl⟩
  rw [hph] at c7 hp
  clear hph
  rcases hp with rfl | rfl | rfl
  all_goals
   go_wp2_with (first
    | (go_at_call 95;go_loud (refine HX.out.2.1.mono ?_;rintro e w5 ⟨rfl,l5,hw5,e5⟩;obtain ⟨j1,j2⟩ := HJ.out.2.2.2.watches _ e5 HX.out.2.2.1 hw5;have H5 := LH (AI j1 j2);clear hw5 e5 j1 j2))
    | (go_at_call 96;go_loud (refine (hmet_is k H _ _ w5 ⟨_,_,rfl,H5.out.1⟩ (HJ.out.2.2.1.ev H5.out.2).glob (HJ.out.2.2.1.ev H5.out.2).sep HX.out.2.2.2).mono ?_;rintro e w6 ⟨rfl,hq⟩)))
   go_end0
   rw [HX.out.1]
   exact HPost.after (w1 := w5) ⟨rfl,hq⟩ (HJ.out.2.1.trans H5.out.2)
theorem hlate_is (H : Nat) (fp : List Nat) (x : M.Host) (w : World) (h : HostIs w H fp x) (h1 : 1 < x.left) (h2 : x.left ≤ 1000) :
  Calls Tryz.prog 72 #[.pointer (some ⟨H,0,none⟩)] w (HPost w H fp x.late) := by
 obtain ⟨z,f,rfl,h⟩ := h
 have hx : x.late = { x with left := x.left - 1 } := by
  unfold M.Host.late
  dsimp only
  rw [if_pos (by omega)]
 obtain ⟨n,hn⟩ : ∃ n,x.left = n := ⟨_,rfl⟩
 have c13 : w.cell? ⟨H,13,none⟩ = some (.int .i64 n) := by rw [← hn];exact cell_at h.str rfl
 have f13 : w.frozen? ⟨H,13,none⟩ = false := free_at h.str
 rw [hn] at h1 h2 hx
 have HH := LH (AI h (AI hx hn))
 clear h hx hn
 go_enter Tryz.func72,Tryz.ntmps72
 go_wp2_with fail
 go_end0
 rw [HH.out.2.1]
 have e : ((n : Int) - 1) = ((n - 1 : Nat) : Int) := by omega
 rw [e]
 obtain ⟨hz,hp,he⟩ := HH.out.1.own (only_set w H 13 (.int .i64 ((n - 1 : Nat) : Int)))
 have hn := HH.out.1.nums
 exact ⟨rfl,_,⟨z,f,rfl,⟨hs_same HH.out.1.str rfl,HH.out.1.f0,hz,⟨hp.es,hp.im,hp.play,hp.giver,hp.watch,hp.ring,hp.demux,hp.heard,hp.out⟩,⟨hn.cfg,hn.ma0,hn.ma1,hn.mb0,hn.mb1,hn.k,hn.es8,hn.up⟩⟩⟩,he⟩
def TakesOk : M.Host → M.B → Prop
 | _,[] => True
 | x,c :: r => x.heard ≤ 1000000 ∧ x.out.length ≤ 800000 ∧ TakeOk x c ∧ TakesOk (x.take c) r
inductive LastOk (x : M.Host) : Prop where
 | over : x.phase = 7 → LastOk x
 | hears : x.phase = 0 → x.playState = 0 → 1 < x.playLeft → x.playLeft ≤ 1000 → LastOk x
 | gives : x.phase = 1 → SndFine x.giver → x.giver.tick.1.length ≤ 2000 → SentOk (gave x x.giver.tick) → LastOk x
 | waits : (x.phase = 2 ∨ x.phase = 3 ∨ x.phase = 4) → 1 < x.left → x.left ≤ 1000 → LastOk x
abbrev drained (x : M.Host) : M.Host := { x with ring := { x.ring with q := [] } }
def HTickOk (x : M.Host) : Prop := TakesOk (drained x) x.ring.q ∧ (List.foldl M.Host.take (drained x) x.ring.q).out.length ≤ 800000 ∧ LastOk (x.ring.q.foldl M.Host.take (drained x))
def afterT (h : M.Host) : M.Host :=
 if h.phase = 7 then h
 else if h.phase = 0 then
  (if h.playState ≠ 0 then h.woken else
   let h := { h with playLeft := h.playLeft - 1 }
   if 0 < h.playLeft then h.woken
   else if h.playTries < 5 then (M.Host.send { h with playTries := h.playTries + 1,playW := M.watchOf [M.prompt],playLeft := 8 } [13]).woken
   else { h with playState := 2 }.woken)
 else if h.phase = 1 then
  (match h.giver with
  | .none => h
  | .one s => let x := s.tick;(M.Host.send { h with giver := .one x.2 } x.1).sent
  | .batch s => let x := s.tick;(M.Host.send { h with giver := .batch x.2 } x.1).sent)
 else h.late
theorem tick_after (x : M.Host) : x.tick = afterT (x.ring.q.foldl M.Host.take (drained x)) := rfl
theorem after_over (x : M.Host) (h : x.phase = 7) : afterT x = x := by unfold afterT;rw [if_pos h]
theorem after_hears (x : M.Host) (h : x.phase = 0) (hp : x.playState = 0) (hl : 1 < x.playLeft) : afterT x = { x with playLeft := x.playLeft - 1 } := by
 unfold afterT
 rw [if_neg (by omega),if_pos h,if_neg (by simp [hp])]
 dsimp only
 rw [if_pos (by omega)]
 exact woken_zero _ hp
theorem after_gives (x : M.Host) (h : x.phase = 1) (hg : SndFine x.giver) : afterT x = (gave x x.giver.tick).sent := by
 unfold afterT
 rw [if_neg (by omega),if_neg (by omega),if_pos h]
 cases hq : x.giver with
 | none => rw [hq] at hg;exact absurd hg (by simp [SndFine])
 | one s => rfl
 | batch s => rfl
theorem after_waits (x : M.Host) (h : x.phase = 2 ∨ x.phase = 3 ∨ x.phase = 4) : afterT x = x.late := by
 unfold afterT
 rw [if_neg (by omega),if_neg (by omega),if_neg (by omega)]
theorem upd_id (f : Nat → List Nat) (i : Nat) : upd f i (f i) = f := by
 funext j
 unfold upd
 split
 ·rename_i h;rw [h]
 ·rfl
theorem HostAt.drains {w w' : World} {H : Nat} {z : HV} {f : Nat → List Nat} {x : M.Host} (h : HostAt w H z f x) (ho : Only [z.R,z.S] w w') (at' : Nat) (hr : Ringed w' z.R z.S x.ring.cap at' [] x.ring.lost) :
  HostAt w' H { z with rat := at' } f (drained x) ∧ Ev w w' (allF f) (allF f) := by
 obtain ⟨_,h6⟩ := h.parts.ring (by decide)
 have ho6 : Only (f 6) w w' := by rw [h6];exact ho
 obtain ⟨hz,hp,he⟩ := h.turn 6 (by decide) (by decide) (ho6.weaken (fun b hb => List.mem_cons_of_mem _ hb)) (Grow.refl _ _) ((h.live 6).ev ho.size)
 rw [upd_id] at hz he
 exact ⟨⟨ho6.heap h.str (h.notH (by decide)),h.f0,hz,⟨fun _ => hp.es (by decide),fun _ => hp.im (by decide),fun _ => hp.play (by decide),fun _ => hp.giver (by decide),fun _ => hp.watch (by decide),fun _ => ⟨hr,h6⟩,fun _ => hp.demux (by decide),fun _ => hp.heard (by decide),fun _ => hp.out (by decide)⟩,⟨h.nums.cfg,h.nums.ma0,h.nums.ma1,h.nums.mb0,h.nums.mb1,h.nums.k,h.nums.es8,h.nums.up⟩⟩,he⟩
def TickLoop (w1 : World) (H : Nat) (fp1 : List Nat) (x0 : M.Host) (q : M.B) (k : Nat) (wr : World) : Prop :=
 ∃ fpk,HostIs wr H fpk ((q.take k).foldl M.Host.take x0) ∧ Ev w1 wr fp1 fpk ∧ TakesOk ((q.take k).foldl M.Host.take x0) (q.drop k)
theorem fold_snoc (x : M.Host) (q : M.B) (k : Nat) (hk : k < q.length) : (q.take (k + 1)).foldl M.Host.take x = ((q.take k).foldl M.Host.take x).take (q.getD k 0) := by
 rw [List.take_succ_eq_append_getElem hk,List.foldl_append]
 simp [List.getD,hk]
theorem htick_is (H : Nat) (fp : List Nat) (x : M.Host) (w : World) (h : HostIs w H fp x) (hgl : Glob w) (hS : Sep fp glb) (hk : HTickOk x) :
  Calls Tryz.prog 46 #[.pointer (some ⟨H,0,none⟩)] w (HPost w H fp x.tick) := by
 have hlive := h.live
 obtain ⟨z,f,rfl,h⟩ := h
 obtain ⟨q,hq⟩ : ∃ q,x.ring.q = q := ⟨_,rfl⟩
 obtain ⟨hr,h6⟩ := h.parts.ring (by decide)
 have c14 : w.cell? ⟨H,14,none⟩ = some (.pointer (some ⟨z.S,0,none⟩)) := cell_at h.str rfl
 obtain ⟨n,hn⟩ : ∃ n,q.length = n := ⟨_,rfl⟩
 have hcap := hr.capLe
 have hlen := hr.len
 rw [hq] at hr hlen
 rw [hn] at hlen
 have hT := take_any z.R z.S x.ring.cap z.rat q x.ring.lost 4096 n w hr (by rw [hn];omega)
 have HH := LH (AI h (AI (GS.mk hgl hS) (AI hk (AI hq (AI hn (AI hT hlive))))))
 clear h hgl hS hk hq hn hT hr h6 hlive
 go_enter Tryz.func46,Tryz.ntmps46
 go_upto_region 1 with (go_at_call 68;go_loud (refine HH.out.2.2.2.2.2.1.mono ?_;rintro e w1 ⟨v,rfl,hv,hr1,o1⟩;obtain ⟨a,cv,rfl⟩ := own_slice hv))
 obtain ⟨j1,j2⟩ := HH.out.1.drains o1 _ (by rw [← HH.out.2.2.2.2.1,List.drop_length] at hr1;exact hr1)
 have hst : TickLoop w1 H (allF f) (drained x) q 0 w1 := ⟨_,⟨_,_,rfl,j1⟩,Ev.refl _ _,by have := HH.out.2.2.1.1;rw [HH.out.2.2.2.1] at this;exact this⟩
 have gs1 := HH.out.2.1.ev j2
 have H1 := LH (AI hv (AI j2 (AI hst (AI gs1 o1))))
 clear hv hr1 o1 j1 j2 hst gs1 c14
 go_loopw [10] (fun s10 wr => ∃ k : Nat,k ≤ n ∧ s10 = .int .i64 k ∧ TickLoop w1 H (allF f) (drained x) q k wr) (fun s10 _ => n - (intOf s10).toNat)
 case atStart => exact ⟨0,Nat.zero_le _,rfl,H1.out.2.2.1⟩
 case round =>
  obtain ⟨k,hk,rfl,fpk,hI,evk,hT⟩ := hrel
  by_cases hlt : k < n
  ·have hkq : k < q.length := by rw [HH.out.2.2.2.2.1];exact hlt
   obtain ⟨b,hb⟩ : ∃ b,b = q.getD k 0 := ⟨_,rfl⟩
   obtain ⟨g,hga,hgl,hnc,hc⟩ := row_at H1.out.1 k (byteV b) (by
    rw [hb,List.getElem?_map,List.getElem?_take,if_pos hlt,List.getElem?_eq_getElem hkq]
    simp [List.getD,hkq])
   have hgf : g ∉ allF f := fun hm => by
    have h1 := HH.out.2.2.2.2.2.2 g hm
    have h2 := (H1.out.1.lt g (by rw [hga];rfl)).1
    omega
   have hcr := evk.only.cell hc hgf
   rw [drop_cons q k hkq,← hb] at hT
   obtain ⟨t1,t2,t3,t4⟩ := hT
   have hx : (q.take (k + 1)).foldl M.Host.take (drained x) = ((q.take k).foldl M.Host.take (drained x)).take b := by rw [fold_snoc _ q k hkq,hb]
   subst hga
   have gsr := H1.out.2.2.2.1.ev evk
   have hC := htake_is b H fpk _ wr hI gsr.glob gsr.sep t1 t2 t3
   have HX := LH (AI hC (AI evk (AI t4 hx)))
   clear hI evk t1 t2 t3 t4 hx gsr hC hc hb hgf hkq
   go_wp2_with (go_at_call 69;go_loud (refine HX.out.1.mono ?_;rintro e w2 ⟨rfl,fp2,h2,e2⟩;have H2 := LH (AI h2 e2);clear h2 e2))
   go_roundw
   case rel => exact ⟨k + 1,by omega,by go_num,fp2,by rw [HX.out.2.2.2];exact H2.out.1,HX.out.2.1.trans H2.out.2,by rw [HX.out.2.2.2];exact HX.out.2.2.1⟩
   case measure => simp [intOf];omega
  ·obtain rfl : k = n := by omega
   have kl : ¬ ((k : Int) < (k : Int)) := by omega
   have htk : q.take k = q := by rw [← HH.out.2.2.2.2.1,List.take_length]
   rw [htk] at hI
   obtain ⟨x1,hx1⟩ : ∃ x1,x1 = List.foldl M.Host.take (drained x) q := ⟨_,rfl⟩
   have hkk := HH.out.2.2.1
   unfold HTickOk at hkk
   have htx : x.tick = afterT x1 := by rw [tick_after,HH.out.2.2.2.1,hx1]
   rw [HH.out.2.2.2.1,← hx1] at hkk
   rw [← hx1] at hI
   obtain ⟨_,hol,hla⟩ := hkk
   have hev : Ev w wr (allF f) fpk := H1.out.2.1.trans evk
   have gsr := HH.out.2.1.ev hev
   obtain ⟨zr,fr,rfl,hr⟩ := id hI
   have c7 : wr.cell? ⟨H,7,none⟩ = some (.int .i64 x1.phase) := cell_at hr.str rfl
   have HX := LH (AI hI (AI hev (AI gsr (AI hr htx))))
   clear hI evk hT htk hx1 hev gsr hr htx
   cases hla with
   | over hp =>
    have hx := after_over x1 hp
    rw [hp] at c7
    have HY := LH hx
    clear hp hx
    go_wp2_with fail
    go_end0
    rw [HX.out.2.2.2.2,HY.out]
    exact ⟨rfl,_,HX.out.1,HX.out.2.1⟩
   | hears hp hs h1 h2 =>
    have hx := after_hears x1 hp hs h1
    rw [hp] at c7
    have c10 : wr.cell? ⟨H,10,none⟩ = some (.pointer (some ⟨zr.P,0,none⟩)) := cell_at HX.out.2.2.2.1.str rfl
    have hP := ptick_any zr.P (fr 3) x1.playLeft x1.playW wr ((HX.out.2.2.2.1.parts.play (by decide)).1 hs) h1 h2
    have HY := LH (AI hx (AI hP hs))
    clear hp hx hP hs h1 h2
    go_wp2_with (first
     | (go_at_call 70;go_loud (refine HY.out.2.1.mono ?_;rintro e w5 ⟨rfl,hl5,o5⟩;obtain ⟨j1,j2⟩ := HX.out.2.2.2.1.plays x1.playW (x1.playLeft - 1) x1.playState (Ev.of_only o5 (fun b hb => hb)) hl5.live ⟨fun _ => hl5,fun e => by have := HY.out.2.2;simp only at e;omega⟩;have H5 := LH (AI j1 j2);clear hl5 o5 j1 j2))
     | (go_at_call 44;go_loud (refine (hsend_nil H _ _ w5 ⟨_,_,rfl,H5.out.1⟩ (by show x1.out.length ≤ _;omega)).mono ?_;rintro e w6 ⟨rfl,fp6,h6,e6⟩;have H6 := LH (AI h6 e6);clear h6 e6))
     | (go_at_call 45;go_loud (refine (hwoken_is H fp6 _ w6 H6.out.1 ((HX.out.2.2.1.ev H5.out.2).ev H6.out.2).glob ((HX.out.2.2.1.ev H5.out.2).ev H6.out.2).sep (.inl HY.out.2.2)).mono ?_;rintro e w7 ⟨rfl,hq⟩)))
    go_end0
    rw [woken_zero ({ x1 with playLeft := x1.playLeft - 1 } : M.Host) HY.out.2.2] at hq
    rw [HX.out.2.2.2.2,HY.out.1]
    exact HPost.after (w1 := w6) ⟨rfl,hq⟩ ((HX.out.2.1.trans H5.out.2).trans H6.out.2)
   | gives hp hg hl hs =>
    have hx := after_gives x1 hp hg
    rw [hp] at c7
    have hgi := HX.out.2.2.2.1.parts.giver (by decide)
    have c11 : wr.cell? ⟨H,11,none⟩ = some zr.giver := cell_at HX.out.2.2.2.1.str rfl
    cases hgv : x1.giver with
    | none => rw [hgv] at hg;exact absurd hg (by simp [SndFine])
    | one s =>
     have hgi' : GiverIs wr zr.giver (fr 4) (.one s) := hgv ▸ hgi
     rw [hgv] at hg hl hs hx
     obtain ⟨S,ro,e,hf4,hsn⟩ := hgi'
     rw [e] at c11
     have hm := fun w => m205_Tick S w
     have hP := stick_any S ro s wr hsn hg
     have HY := LH (AI hx (AI hP (AI e (AI hf4 hs))))
     clear hp hx hP hg hs hgv hgi hsn hf4 e
     simp only [M.Giver.tick] at hl
     go_wp2_with (first
      | (go_at_call 228;go_loud (refine HY.out.2.1.mono ?_;rintro e w5 ⟨v,rfl,hv5,hs5,o5⟩;obtain ⟨a5,c5,rfl,b5,_,n5,_⟩ := hv5.read;obtain ⟨j1,j2⟩ := HX.out.2.2.2.1.gives (.one s.tick.2) (o5.weaken (fun b hb => by rw [HY.out.2.2.2.1];simp at hb;simp [hb])) ⟨S,ro,HY.out.2.2.1,HY.out.2.2.2.1,hs5⟩;have H5 := LH (AI j1 (AI j2 (AI b5 n5)));clear hs5 o5 j1 j2 b5 n5 hv5))
      | (go_at_call 44;go_loud (refine (hsend_is a5 s.tick.1.length c5 s.tick.1 H _ _ w5 ⟨_,_,rfl,H5.out.1⟩ H5.out.2.2.1 rfl H5.out.2.2.2 (by show x1.out.length + _ ≤ _;omega)).mono ?_;rintro e w6 ⟨rfl,fp6,h6,e6⟩;have H6 := LH (AI h6 e6);clear h6 e6))
      | (go_at_call 71;go_loud (refine (hsent_is H fp6 _ w6 H6.out.1 HY.out.2.2.2.2).mono ?_;rintro e w7 ⟨rfl,hq⟩)))
     go_end0
     rw [HX.out.2.2.2.2,HY.out.1]
     exact HPost.after (w1 := w6) ⟨rfl,hq⟩ ((HX.out.2.1.trans H5.out.2.1).trans H6.out.2)
    | batch s =>
     have hgi' : GiverIs wr zr.giver (fr 4) (.batch s) := hgv ▸ hgi
     rw [hgv] at hg hl hs hx
     obtain ⟨F,e,hf4,hsn⟩ := hgi'
     rw [e] at c11
     have hm := fun w => m199_Tick F.X w
     have hP := bstick_any F s wr hsn hg
     have HY := LH (AI hx (AI hP (AI e (AI hf4 hs))))
     clear hp hx hP hg hs hgv hgi hsn hf4 e
     simp only [M.Giver.tick] at hl
     go_wp2_with (first
      | (go_at_call 225;go_loud (refine HY.out.2.1.mono ?_;rintro e w5 ⟨v,rfl,hv5,hs5,o5⟩;obtain ⟨a5,c5,rfl,b5,_,n5,_⟩ := hv5.read;obtain ⟨j1,j2⟩ := HX.out.2.2.2.1.gives (.batch s.tick.2) (o5.weaken (turns_all F (fr 4) HY.out.2.2.2.1)) ⟨F,HY.out.2.2.1,HY.out.2.2.2.1,hs5⟩;have H5 := LH (AI j1 (AI j2 (AI b5 n5)));clear hs5 o5 j1 j2 b5 n5 hv5))
      | (go_at_call 44;go_loud (refine (hsend_is a5 s.tick.1.length c5 s.tick.1 H _ _ w5 ⟨_,_,rfl,H5.out.1⟩ H5.out.2.2.1 rfl H5.out.2.2.2 (by show x1.out.length + _ ≤ _;omega)).mono ?_;rintro e w6 ⟨rfl,fp6,h6,e6⟩;have H6 := LH (AI h6 e6);clear h6 e6))
      | (go_at_call 71;go_loud (refine (hsent_is H fp6 _ w6 H6.out.1 HY.out.2.2.2.2).mono ?_;rintro e w7 ⟨rfl,hq⟩)))
     go_end0
     rw [HX.out.2.2.2.2,HY.out.1]
     exact HPost.after (w1 := w6) ⟨rfl,hq⟩ ((HX.out.2.1.trans H5.out.2.1).trans H6.out.2)
   | waits hp h1 h2 =>
    have hx := after_waits x1 hp
    have HY := LH hx
    clear hx
    obtain ⟨ph,hph⟩ : ∃ ph,x1.phase = ph := ⟨_,rfl⟩
    rw [hph] at c7 hp
    clear hph
    rcases hp with rfl | rfl | rfl
    all_goals
     go_wp2_with (go_at_call 72;go_loud (refine (hlate_is H _ x1 wr HX.out.1 h1 h2).mono ?_;rintro e w5 ⟨rfl,hq⟩))
     go_end0
     rw [HX.out.2.2.2.2,HY.out]
     exact HPost.after (w1 := wr) ⟨rfl,hq⟩ HX.out.2.1
end Go.Proofs.YtplaamfoeaaaiaaGreatDoor
