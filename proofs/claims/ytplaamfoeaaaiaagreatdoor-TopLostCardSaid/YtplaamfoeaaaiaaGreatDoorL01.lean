/- Of TopRoom and TopLost: the plain law of one entry, its world, how its runs end. No condition of its own. -/
import Derived.Test.YtplaamfoeaaaiaaGreatDoorK01
import Derived.Test.YtplaamfoeaaaiaaGreatDoorK02
import Derived.Test.YtplaamfoeaaaiaaGreatDoorK32
import Derived.Test.YtplaamfoeaaaiaaGreatDoorK37
import Derived.Test.YtplaamfoeaaaiaaGreatDoorK41
import Derived.Test.YtplaamfoeaaaiaaGreatDoorK44
import Derived.KernelRfl
import Derived.LaidHandle
set_option maxRecDepth 100000
set_option maxHeartbeats 8000000
set_option linter.unusedVariables false
namespace Go.Proofs.YtplaamfoeaaaiaaGreatDoor
abbrev act0 : M.WAct := ⟨false,0,false,0⟩
abbrev actD : M.WAct := ⟨true,0,false,0⟩
theorem pass1_acc (o : M.B) (w : M.Wire) (c : UInt8) : M.Wire.pass1 (o,w) c = (o ++ (M.Wire.pass1 ([],w) c).1,(M.Wire.pass1 ([],w) c).2) := by
 simp [M.Wire.pass1,List.append_assoc]
theorem pass_acc : ∀ (b o : M.B) (w : M.Wire),b.foldl M.Wire.pass1 (o,w) = (o ++ (w.pass b).1,(w.pass b).2)
 | [],o,w => by simp [M.Wire.pass]
 | c :: r,o,w => by
  have h1 : (c :: r).foldl M.Wire.pass1 (o,w) = r.foldl M.Wire.pass1 (M.Wire.pass1 (o,w) c) := rfl
  have h2 : w.pass (c :: r) = r.foldl M.Wire.pass1 (M.Wire.pass1 ([],w) c) := rfl
  rw [h1,h2,pass1_acc]
  generalize M.Wire.pass1 ([],w) c = p
  obtain ⟨p1,p2⟩ := p
  rw [pass_acc r (o ++ p1) p2,pass_acc r p1 p2]
  simp [List.append_assoc]
theorem pass_cons (w : M.Wire) (c : UInt8) (r : M.B) : w.pass (c :: r) = ((M.Wire.pass1 ([],w) c).1 ++ ((M.Wire.pass1 ([],w) c).2.pass r).1,((M.Wire.pass1 ([],w) c).2.pass r).2) := by
 have h2 : w.pass (c :: r) = r.foldl M.Wire.pass1 (M.Wire.pass1 ([],w) c) := rfl
 rw [h2]
 exact pass_acc r _ _
theorem pass_append : ∀ (a b : M.B) (w : M.Wire),w.pass (a ++ b) = ((w.pass a).1 ++ ((w.pass a).2.pass b).1,((w.pass a).2.pass b).2)
 | [],b,w => by simp [M.Wire.pass]
 | c :: a,b,w => by
  rw [List.cons_append,pass_cons,pass_cons,pass_append a b]
  simp [List.append_assoc]
theorem pass_clean : ∀ (b : M.B) (w : M.Wire),(∀ m,w.n ≤ m → m < w.n + b.length → w.acts.getD m act0 = act0) → w.pass b = (b,{ w with n := w.n + b.length,marks := w.marks + b.length })
 | [],w,_ => rfl
 | c :: r,w,h => by
  have ha : w.act = act0 := h w.n (Nat.le_refl _) (by simp)
  have h1 : M.Wire.pass1 ([],w) c = ([c],{ w with n := w.n + 1,marks := w.marks + 1 }) := by
   unfold M.Wire.pass1
   simp only [ha]
   simp
  rw [pass_cons,h1]
  simp only
  rw [pass_clean r { w with n := w.n + 1,marks := w.marks + 1 } (fun m h1 h2 => h m (by simp only at h1;omega) (by simp only at h2;simp only [List.length_cons];omega))]
  simp only [List.length_cons,List.cons_append,List.nil_append,Prod.mk.injEq,M.Wire.mk.injEq,true_and]
  omega
theorem pass_drop : ∀ (b : M.B) (w : M.Wire),(∀ m,w.n ≤ m → m < w.n + b.length → w.acts.getD m act0 = actD) → w.pass b = ([],{ w with n := w.n + b.length })
 | [],w,_ => rfl
 | c :: r,w,h => by
  have ha : w.act = actD := h w.n (Nat.le_refl _) (by simp)
  have h1 : M.Wire.pass1 ([],w) c = ([],{ w with n := w.n + 1 }) := by
   unfold M.Wire.pass1
   simp only [ha]
   simp
  rw [pass_cons,h1]
  simp only
  rw [pass_drop r { w with n := w.n + 1 } (fun m h1 h2 => h m (by simp only at h1;omega) (by simp only at h2;simp only [List.length_cons];omega))]
  simp only [List.length_cons,List.nil_append,Prod.mk.injEq,M.Wire.mk.injEq,true_and,and_true]
  omega
def Clean (w : M.Wire) : Prop := ∀ m,w.n ≤ m → w.acts.getD m act0 = act0
theorem Clean.pass {w : M.Wire} (h : Clean w) (b : M.B) : w.pass b = (b,{ w with n := w.n + b.length,marks := w.marks + b.length }) := pass_clean b w (fun m h1 _ => h m h1)
theorem Clean.next {w : M.Wire} (h : Clean w) (a k : Nat) : Clean { w with n := w.n + a,marks := w.marks + k } := fun m hm => h m (by simp only at hm;omega)
theorem clean_nil (n k : Nat) : Clean ⟨[],n,k⟩ := fun m _ => by simp
def blkB (x : M.Blk) : M.B := [1,x.number,255 - x.number] ++ x.data ++ M.trailer x.data true
theorem trailer_lenP (d : M.B) : (M.trailer d true).length = 2 := rfl
theorem blkB_len (x : M.Blk) (h : x.data.length = 128) : (blkB x).length = 133 := by simp [blkB,h,trailer_lenP]
theorem make_blk (x : M.Blk) (h : x.data.length = 128) : M.makeB x true = some (blkB x) := by unfold M.makeB;rw [if_pos h];rfl
theorem blkB_cons (x : M.Blk) : blkB x = 1 :: x.number :: (255 - x.number) :: (x.data ++ M.trailer x.data true) := by simp [blkB]
theorem blk_data (x : M.Blk) (h : x.data.length = 128) : ((blkB x).drop 3).take 128 = x.data := by
 rw [blkB_cons]
 simp only [List.drop_succ_cons,List.drop_zero]
 rw [← h,List.take_left']
 rfl
theorem blk_trail (x : M.Blk) (h : x.data.length = 128) : (blkB x).drop 131 = M.trailer x.data true := by
 rw [blkB_cons]
 simp only [List.drop_succ_cons]
 rw [← h,List.drop_left']
 rfl
theorem u255 (x : UInt8) : 255 - (255 - x) = x := by
 apply UInt8.toNat_inj.1
 have := x.toNat_lt
 simp only [UInt8.toNat_sub,UInt8.reduceToNat]
 omega
theorem scan_blk (x : M.Blk) (h : x.data.length = 128) : M.scan (blkB x) true = .good x := by
 have hl := blkB_len x h
 have hd : ((blkB x).take (133 - 2)).drop 3 = x.data := by
  rw [List.drop_take]
  exact blk_data x h
 have ht : ((blkB x).take 133).drop (3 + x.data.length) = M.trailer x.data true := by
  rw [h,← hl,List.take_length]
  exact blk_trail x h
 have h1 : (blkB x).getD 1 0 = x.number := by rw [blkB_cons];rfl
 have h2 : (blkB x).getD 2 0 = 255 - x.number := by rw [blkB_cons];rfl
 have hs : M.sizeB 1 true = 133 := rfl
 obtain ⟨r,hr⟩ : ∃ r,blkB x = 1 :: r := ⟨_,blkB_cons x⟩
 unfold M.scan
 rw [hr]
 simp only
 rw [← hr,hs]
 rw [if_neg (by omega),if_neg (by rw [h1,h2,u255];simp),if_neg (by omega)]
 simp only [if_true]
 rw [hd,ht,if_neg (by simp),h1]
theorem rput_blk (r : M.Rcv) (x : M.Blk) (h : x.data.length = 128) (ho : r.over = false) (hb : r.buffer = []) (hc : r.crc = true) (hcl : r.close = true) (hx : x.number = r.number) :
  r.put (blkB x) = ([6],{ r with left := r.wait,buffer := [],data := r.data ++ x.data,number := r.number + 1,blocks := r.blocks + 1,begun := true }) := by
 have hne : blkB x ≠ [] := by rw [blkB_cons];simp
 have h0 : (blkB x).getD 0 0 = 1 := by rw [blkB_cons];rfl
 unfold M.Rcv.put
 rw [if_neg (by simp [ho,hne])]
 simp only [hb,List.nil_append,h0,hc,scan_blk x h]
 rw [if_neg (by simp),if_neg (by simp),if_neg (by simp)]
 unfold M.Rcv.take
 simp [hx,hcl]
theorem rput_eot (r : M.Rcv) (ho : r.over = false) (hb : r.buffer = []) (hcl : r.close = true) :
  r.put [4] = ([6],{ r with left := r.wait,buffer := [4],over := true,err := 0 }) := by
 unfold M.Rcv.put
 rw [if_neg (by simp [ho])]
 simp [hb,hcl,M.Rcv.end_]
theorem rput_need (r : M.Rcv) (b : M.B) (h : b = [1] ∨ b = [1,1]) (ho : r.over = false) (hb : r.buffer = []) (hc : r.crc = true) :
  r.put b = ([],{ r with left := r.wait,buffer := b }) := by
 unfold M.Rcv.put
 rw [if_neg (by rcases h with rfl | rfl <;> simp [ho])]
 rcases h with rfl | rfl
 ·simp [hb,hc,M.scan,M.sizeB]
 ·simp [hb,hc,M.scan,M.sizeB]
theorem rput_bad (r : M.Rcv) (x : M.Blk) (b : M.B) (h : b = [1] ∨ b = [1,1]) (hx : x.number = 1) (ho : r.over = false) (hb : r.buffer = b) (hc : r.crc = true) :
  r.put (blkB x) = ([21],{ r with left := r.wait,buffer := [] }) := by
 have hne : blkB x ≠ [] := by rw [blkB_cons];simp
 have hs : M.scan (b ++ blkB x) true = .bad := by
  rw [blkB_cons,hx]
  have hs : M.sizeB 1 true = 133 := rfl
  rcases h with rfl | rfl
  ·unfold M.scan
   simp only [List.cons_append,List.nil_append,hs]
   rw [if_neg (by omega),if_pos ⟨by simp,by simp⟩]
  ·unfold M.scan
   simp only [List.cons_append,List.nil_append,hs]
   rw [if_neg (by omega),if_pos ⟨by simp,by simp⟩]
 have h0 : (b ++ blkB x).getD 0 0 = 1 := by rcases h with rfl | rfl <;> rfl
 unfold M.Rcv.put
 rw [if_neg (by simp [ho,hne])]
 simp only [hb,h0,hc,hs]
 rw [if_neg (by simp),if_neg (by simp),if_neg (by simp)]
theorem split_spec : ∀ (f : Nat) (d : M.B),d.length ≤ f → (∀ p,p ∈ M.splitF false f d → p.length = 128) ∧ (M.splitF false f d).length = (d.length + 127) / 128 ∧ (∃ k,(M.splitF false f d).flatten = d ++ List.replicate k 26)
 | 0,d,h => by
  have : d = [] := List.eq_nil_of_length_eq_zero (by omega)
  subst this
  exact ⟨fun p hp => by simp [M.splitF] at hp,by simp [M.splitF],0,by simp [M.splitF]⟩
 | f + 1,d,h => by
  by_cases hd : d = []
  ·subst hd
   exact ⟨fun p hp => by simp [M.splitF] at hp,by simp [M.splitF],0,by simp [M.splitF]⟩
  ·have hpos : 0 < d.length := List.length_pos_iff.2 hd
   have hu : M.splitF false (f + 1) d = (d.take (min 128 d.length) ++ List.replicate (128 - (d.take (min 128 d.length)).length) 26) :: M.splitF false f (d.drop (d.take (min 128 d.length)).length) := by
    conv => lhs;unfold M.splitF
    rw [if_neg hd]
    simp
   have hl : (d.take (min 128 d.length)).length = min 128 d.length := by simp
   rw [hl] at hu
   obtain ⟨i1,i2,k,i3⟩ := split_spec f (d.drop (min 128 d.length)) (by rw [List.length_drop];omega)
   rw [hu]
   refine ⟨fun p hp => ?_,?_,?_⟩
   ·rw [List.mem_cons] at hp
    rcases hp with rfl | hp
    ·rw [List.length_append,hl,List.length_replicate];omega
    ·exact i1 p hp
   ·rw [List.length_cons,i2,List.length_drop];omega
   ·by_cases hle : 128 ≤ d.length
    ·have hm : min 128 d.length = 128 := by omega
     rw [hm] at i3 ⊢
     refine ⟨k,?_⟩
     rw [List.flatten_cons,i3]
     simp only [Nat.sub_self,List.replicate_zero,List.append_nil]
     rw [← List.append_assoc,List.take_append_drop]
    ·have hm : min 128 d.length = d.length := by omega
     rw [hm] at i3 ⊢
     refine ⟨128 - d.length + k,?_⟩
     rw [List.flatten_cons,i3,List.take_length,List.drop_length]
     simp [List.replicate_append_replicate,List.append_assoc]
theorem numberF_getP : ∀ (ps : List M.B) (k j : Nat),(M.numberF k ps)[j]? = (ps[j]?).map fun p => ⟨UInt8.ofNat (k + j + 1),p⟩
 | [],k,j => by simp [M.numberF]
 | p :: r,k,0 => by simp [M.numberF]
 | p :: r,k,j + 1 => by
  simp only [M.numberF,List.getElem?_cons_succ]
  rw [numberF_getP r (k + 1) j]
  have : k + 1 + j + 1 = k + (j + 1) + 1 := by omega
  rw [this]
theorem numberF_len : ∀ (ps : List M.B) (k : Nat),(M.numberF k ps).length = ps.length
 | [],k => rfl
 | p :: r,k => by simp [M.numberF,numberF_len r]
def hexC (c : UInt8) : Prop := (48 ≤ c.toNat ∧ c.toNat ≤ 57) ∨ (97 ≤ c.toNat ∧ c.toNat ≤ 102)
theorem digit_hex (n : Nat) (h : n < 16) : hexC (M.digit n) := by
 unfold M.digit hexC
 split
 ·left;simp [UInt8.toNat_ofNat'];omega
 ·right;simp [UInt8.toNat_ofNat'];omega
theorem digitsF_hex : ∀ (f n : Nat) (acc : M.B),(∀ c,c ∈ acc → hexC c) → ∀ c,c ∈ M.digitsF 16 f n acc → hexC c
 | 0,n,acc,h,c,hc => h c hc
 | f + 1,n,acc,h,c,hc => by
  unfold M.digitsF at hc
  split at hc
  ·rename_i hn
   rw [List.mem_cons] at hc
   rcases hc with rfl | hc
   ·exact digit_hex n hn
   ·exact h c hc
  ·refine digitsF_hex f _ _ (fun d hd => ?_) c hc
   rw [List.mem_cons] at hd
   rcases hd with rfl | hd
   ·exact digit_hex _ (Nat.mod_lt _ (by omega))
   ·exact h d hd
theorem digits_hex (n : Nat) : ∀ c,c ∈ M.digits 16 n → hexC c := digitsF_hex 64 n [] (fun c h => by simp at h)
theorem digitsF_lenP : ∀ (k f n : Nat) (acc : M.B),n < 16 ^ (k + 1) → (M.digitsF 16 f n acc).length ≤ k + 1 + acc.length
 | k,0,n,acc,h => by simp [M.digitsF]
 | 0,f + 1,n,acc,h => by
  unfold M.digitsF
  rw [if_pos (by simpa using h)]
  simp
  omega
 | k + 1,f + 1,n,acc,h => by
  unfold M.digitsF
  split
  ·simp only [List.length_cons];omega
  ·refine Nat.le_trans (digitsF_lenP k f _ _ ?_) (by simp;omega)
   rw [Nat.pow_succ] at h
   omega
theorem digits8 (n : Nat) (h : n < 4294967296) : (M.digits 16 n).length ≤ 8 := by
 have := digitsF_lenP 7 64 n [] (by simpa using h)
 simpa [M.digits] using this
end Go.Proofs.YtplaamfoeaaaiaaGreatDoor
namespace Go.Proofs.YtplaamfoeaaaiaaGreatDoor
theorem suffix_snoc (a u : M.B) (x c : UInt8) : a ++ [x] <:+ u ++ [c] ↔ x = c ∧ a <:+ u := by
 rw [← List.reverse_prefix,← List.reverse_prefix]
 simp [List.cons_prefix_cons]
def Rep (l : M.B) (a : List Bool) (u : M.B) : Prop := ∀ k,k < l.length → a.getD k false = decide (l.take (k + 1) <:+ u)
theorem rep_nil (l : M.B) : Rep l [] [] := by
 intro k hk
 have : ¬ l.take (k + 1) = [] := by
  intro h
  rw [List.take_eq_nil_iff] at h
  rcases h with h | h
  ·omega
  ·subst h;simp at hk
 simp [List.suffix_nil,this]
theorem stepW_at (l : M.B) (a : List Bool) (c : UInt8) (k : Nat) (hk : k < l.length) : (M.stepW l a c)[k]? = some (l.getD k 0 == c && (k == 0 || a.getD (k - 1) false)) := by
 unfold M.stepW
 rw [List.getElem?_map,List.getElem?_range hk]
 rfl
theorem stepW_val (l : M.B) (a : List Bool) (u : M.B) (c : UInt8) (h : Rep l a u) (k : Nat) (hk : k < l.length) : (l.getD k 0 == c && (k == 0 || a.getD (k - 1) false)) = decide (l.take (k + 1) <:+ u ++ [c]) := by
 have ht : l.take (k + 1) = l.take k ++ [l.getD k 0] := by
  rw [List.take_succ_eq_append_getElem hk]
  simp [List.getD,hk]
 rw [ht]
 have hs := suffix_snoc (l.take k) u (l.getD k 0) c
 have hs' : decide (l.take k ++ [l.getD k 0] <:+ u ++ [c]) = decide (l.getD k 0 = c ∧ l.take k <:+ u) := by simp only [hs]
 rw [hs']
 cases k with
 | zero => simp [Bool.beq_eq_decide_eq]
 | succ j =>
  rw [Nat.add_sub_cancel,h j (by omega)]
  simp only [Bool.decide_and]
  congr 1
theorem rep_step (l : M.B) (a : List Bool) (u : M.B) (c : UInt8) (h : Rep l a u) : Rep l (M.stepW l a c) (u ++ [c]) := by
 intro k hk
 rw [List.getD,stepW_at l a c k hk,Option.getD_some]
 exact stepW_val l a u c h k hk
theorem stepW_lastP (l : M.B) (a : List Bool) (u : M.B) (c : UInt8) (h : Rep l a u) (hl : 0 < l.length) : (M.stepW l a c).getLast?.getD false = decide (l <:+ u ++ [c]) := by
 have hlen : (M.stepW l a c).length = l.length := by simp [M.stepW]
 rw [List.getLast?_eq_getElem?,hlen,stepW_at l a c (l.length - 1) (by omega),Option.getD_some,stepW_val l a u c h (l.length - 1) (by omega)]
 have : l.length - 1 + 1 = l.length := by omega
 rw [this,List.take_length]
structure WRep (y : M.Watch) (u : M.B) : Prop where
 len : y.ats.length = y.lits.length
 over : y.over = false
 ne : ∀ l,l ∈ y.lits → 0 < l.length
 rep : ∀ (i : Nat) (l : M.B) (a : List Bool),y.lits[i]? = some l → y.ats[i]? = some a → Rep l a u
theorem wrep_of (ls : List M.B) (h : ∀ l,l ∈ ls → 0 < l.length) : WRep (M.watchOf ls) [] := by
 refine ⟨by simp [M.watchOf],rfl,h,fun i l a h1 h2 => ?_⟩
 have h1' : ls[i]? = some l := h1
 have h2' : (ls.map fun _ => ([] : List Bool))[i]? = some a := h2
 rw [List.getElem?_map,h1'] at h2'
 simp at h2'
 subst h2'
 exact rep_nil l
def atsOf (y : M.Watch) (c : UInt8) : List (List Bool) := (y.lits.zip y.ats).map fun x => M.stepW x.1 x.2 c
theorem ats_at {y : M.Watch} {u : M.B} (h : WRep y u) (c : UInt8) (i : Nat) (l : M.B) (hl : y.lits[i]? = some l) : ∃ a,y.ats[i]? = some a ∧ (atsOf y c)[i]? = some (M.stepW l a c) ∧ Rep l a u := by
 have hi := (List.getElem?_eq_some_iff.1 hl).1
 have ha : y.ats[i]? = some (y.ats[i]'(by rw [h.len];exact hi)) := List.getElem?_eq_getElem _
 refine ⟨_,ha,?_,h.rep i l _ hl ha⟩
 unfold atsOf
 rw [List.getElem?_map,(List.getElem?_zip_eq_some (z := (l,y.ats[i]'(by rw [h.len];exact hi)))).2 ⟨hl,ha⟩]
 rfl
theorem put_eq (y : M.Watch) (c : UInt8) (h : y.over = false) : y.put c = match (atsOf y c).findIdx? (fun a => a.getLast?.getD false) with
  | none => (none,{ y with ats := atsOf y c })
  | some k => (some k,{ y with ats := atsOf y c,over := true }) := by
 unfold M.Watch.put
 rw [if_neg (by simp [h])]
 rfl
theorem wput_none {y : M.Watch} {u : M.B} (h : WRep y u) (c : UInt8) (hn : ∀ l,l ∈ y.lits → ¬ l <:+ u ++ [c]) : (y.put c).1 = none ∧ WRep (y.put c).2 (u ++ [c]) ∧ (y.put c).2.lits = y.lits := by
 have hlen : (atsOf y c).length = y.lits.length := by simp [atsOf,h.len]
 have hf : (atsOf y c).findIdx? (fun a => a.getLast?.getD false) = none := by
  rw [List.findIdx?_eq_none_iff]
  intro a ha
  obtain ⟨i,hi⟩ := List.getElem?_of_mem ha
  have hil := (List.getElem?_eq_some_iff.1 hi).1
  rw [hlen] at hil
  obtain ⟨b,_,h2,h3⟩ := ats_at h c i y.lits[i] (List.getElem?_eq_getElem hil)
  rw [h2] at hi
  obtain rfl := Option.some.inj hi
  rw [stepW_lastP _ _ _ _ h3 (h.ne _ (List.getElem_mem hil))]
  simpa using hn _ (List.getElem_mem hil)
 rw [put_eq y c h.over,hf]
 refine ⟨rfl,⟨hlen,h.over,h.ne,fun i l a h1 h2 => ?_⟩,rfl⟩
 obtain ⟨b,_,h4,h5⟩ := ats_at h c i l h1
 rw [h4] at h2
 obtain rfl := Option.some.inj h2
 exact rep_step l b u c h5
theorem wput_some {y : M.Watch} {u : M.B} (h : WRep y u) (c : UInt8) (l : M.B) (hl : y.lits[0]? = some l) (hs : l <:+ u ++ [c]) : (y.put c).1 = some 0 := by
 obtain ⟨b,_,h2,h3⟩ := ats_at h c 0 l hl
 have hf : (atsOf y c).findIdx? (fun a => a.getLast?.getD false) = some 0 := by
  cases hq : atsOf y c with
  | nil => rw [hq] at h2;simp at h2
  | cons a r =>
   rw [hq] at h2
   obtain rfl := Option.some.inj (show some a = _ from h2)
   rw [List.findIdx?_cons,stepW_lastP _ _ _ _ h3 (h.ne l (List.mem_of_getElem? hl))]
   simp [hs]
 rw [put_eq y c h.over,hf]
end Go.Proofs.YtplaamfoeaaaiaaGreatDoor
namespace Go.Proofs.YtplaamfoeaaaiaaGreatDoor
abbrev sndS (W : Nat) (bl : List M.Blk) (ph k tr lf : Nat) : M.Snd := ⟨⟨3,W⟩,bl,true,true,ph,k,tr,lf,false,0⟩
theorem snd_67 (W : Nat) (bl : List M.Blk) (lf : Nat) (x : M.Blk) (h : bl[0]? = some x) (hx : x.data.length = 128) : (sndS W bl 0 0 1 lf).put 67 = (blkB x,sndS W bl 1 0 1 W) := by
 obtain ⟨hl,he⟩ := List.getElem?_eq_some_iff.1 h
 simp [M.Snd.put,M.Snd.next,M.Snd.now,hl,he,make_blk x hx]
theorem snd_6 (W : Nat) (bl : List M.Blk) (k tr lf : Nat) (x : M.Blk) (h : bl[k + 1]? = some x) (hx : x.data.length = 128) : (sndS W bl 1 k tr lf).put 6 = (blkB x,sndS W bl 1 (k + 1) 1 W) := by
 obtain ⟨hl,he⟩ := List.getElem?_eq_some_iff.1 h
 simp [M.Snd.put,M.Snd.next,M.Snd.now,hl,he,make_blk x hx]
theorem snd_6l (W : Nat) (bl : List M.Blk) (k tr lf : Nat) (h : bl.length = k + 1) : (sndS W bl 1 k tr lf).put 6 = ([4],sndS W bl 2 (k + 1) 1 W) := by
 simp [M.Snd.put,M.Snd.next,M.Snd.now,h]
theorem snd_6e (W : Nat) (bl : List M.Blk) (k tr lf : Nat) (h : bl.length = k) : (sndS W bl 2 k tr lf).put 6 = ([],sndS W bl 3 k 1 W) := by
 simp [M.Snd.put,M.Snd.next,M.Snd.end_,h]
theorem snd_21 (W : Nat) (bl : List M.Blk) (k tr lf : Nat) (x : M.Blk) (h : bl[k]? = some x) (hx : x.data.length = 128) (ht : tr < 3) : (sndS W bl 1 k tr lf).put 21 = (blkB x,sndS W bl 1 k (tr + 1) W) := by
 have : ¬ 3 ≤ tr := by omega
 obtain ⟨hl,he⟩ := List.getElem?_eq_some_iff.1 h
 simp [M.Snd.put,M.Snd.again,M.Snd.now,hl,he,make_blk x hx,this]
theorem snd_tick (W : Nat) (bl : List M.Blk) (ph k tr lf : Nat) (hp : ph ≠ 3) (hl : 2 ≤ lf) : (sndS W bl ph k tr lf).tick = ([],sndS W bl ph k tr (lf - 1)) := by
 have : 0 < lf - 1 := by omega
 simp [M.Snd.tick,hp,this]
theorem snd_late (W : Nat) (bl : List M.Blk) (k tr : Nat) (x : M.Blk) (h : bl[k]? = some x) (hx : x.data.length = 128) (ht : tr < 3) : (sndS W bl 1 k tr 1).tick = (blkB x,sndS W bl 1 k (tr + 1) W) := by
 have : ¬ 3 ≤ tr := by omega
 obtain ⟨hl,he⟩ := List.getElem?_eq_some_iff.1 h
 simp [M.Snd.tick,M.Snd.again,M.Snd.now,hl,he,make_blk x hx,this]
abbrev rcvS (W : Nat) (nu : UInt8) (bg : Bool) (buf data : M.B) (bk tr lf : Nat) : M.Rcv := ⟨true,W,tr,lf,nu,bg,true,buf,data,bk,1,false,0⟩
theorem rcv_tick (W : Nat) (nu : UInt8) (bg : Bool) (buf data : M.B) (bk tr lf : Nat) (h : 2 ≤ lf) : (rcvS W nu bg buf data bk tr lf).tick = ([],rcvS W nu bg buf data bk tr (lf - 1)) := by
 have : 0 < lf - 1 := by omega
 simp [M.Rcv.tick,this]
theorem rcv_first (W tr : Nat) : (rcvS W 1 false [] [] 0 (tr + 1) 1).tick = ([67],rcvS W 1 false [] [] 0 tr W) := by
 simp [M.Rcv.tick,M.Rcv.ask]
abbrev brdS (W : Nat) (line : M.B) (tk : M.Taker) (addr : Nat) (st : Nat → UInt8) : M.Board := ⟨⟨3,W⟩,false,line,tk,addr,st⟩
theorem brd_put (W : Nat) (a : Nat) (st : Nat → UInt8) (r : M.Rcv) (bs o : M.B) (r' : M.Rcv) (h : r.put bs = (o,r')) (ho : r'.over = false) : (brdS W [] (.one r) a st).put bs = (o,brdS W [] (.one r') a st) := by
 simp [M.Board.put,M.Board.isTaking,M.Board.taken,h,M.Board.loaded,ho]
theorem brd_tick (W : Nat) (a : Nat) (st : Nat → UInt8) (r : M.Rcv) (o : M.B) (r' : M.Rcv) (h : r.tick = (o,r')) (ho : r'.over = false) : (brdS W [] (.one r) a st).tick = (o,brdS W [] (.one r') a st) := by
 simp [M.Board.tick,h,M.Board.loaded,ho]
def loadSt (a : Nat) (d : M.B) (st : Nat → UInt8) : Nat → UInt8 := fun k => if a ≤ k ∧ k < a + d.length then d.getD (k - a) 0 else st k
theorem brd_eot (W : Nat) (a : Nat) (st : Nat → UInt8) (r : M.Rcv) (bs : M.B) (r' : M.Rcv) (h : r.put bs = ([6],r')) (ho : r'.over = true) (he : r'.err = 0) (hf : M.fits a r'.data.length = true) : (brdS W [] (.one r) a st).put bs = ([6,13,10,61,62,32],brdS W [] .none a (loadSt a r'.data st)) := by
 simp [M.Board.put,M.Board.isTaking,M.Board.taken,h,M.Board.loaded,ho,he,hf,M.prompt]
 rfl
theorem read_load (W : Nat) (a n : Nat) (tk : M.Taker) (line im : M.B) (d : M.B) (st : Nat → UInt8) (k : Nat) (hn : im.length = n) (hd : d = im ++ List.replicate k 26) : (brdS W line tk a (loadSt a d st)).read a n = im := by
 subst hn hd
 unfold M.Board.read
 apply List.ext_getElem
 ·simp
 ·intro i h1 h2
  simp only [List.getElem_map,List.getElem_range,loadSt]
  rw [if_pos ⟨by omega,by simp;omega⟩,Nat.add_sub_cancel_left]
  simp [List.getD,List.getElem?_append_left h2,h2]
theorem puts_line (W a : Nat) (st : Nat → UInt8) : ∀ (l ln out r : M.B),(∀ c,c ∈ l → c ≠ 13) → ln.length + l.length ≤ 80 → M.Board.puts (brdS W ln .none a st) out (l ++ r) = M.Board.puts (brdS W (ln ++ l) .none a st) out r
 | [],ln,out,r,_,_ => by simp
 | c :: l,ln,out,r,h,hl => by
  have hc : c ≠ 13 := h c (by simp)
  simp only [List.length_cons] at hl
  have h1 : (brdS W ln .none a st).put1 c = ([],brdS W (ln ++ [c]) .none a st) := by
   have : ln.length < 80 := by omega
   simp [M.Board.put1,hc,this]
  rw [List.cons_append,M.Board.puts]
  simp only [M.Board.isTaking,Bool.false_eq_true,if_false]
  rw [h1]
  simp only [List.append_nil]
  rw [puts_line W a st l (ln ++ [c]) out r (fun d hd => h d (by simp [hd])) (by simp;omega)]
  simp [List.append_assoc]
theorem puts_end (W a : Nat) (st : Nat → UInt8) (ln o : M.B) (h : (brdS W [] .none a st).does ln = (o,brdS W [] .none a st)) : M.Board.puts (brdS W ln .none a st) [] [13] = (o,brdS W [] .none a st) := by
 rw [M.Board.puts]
 have h1 : (brdS W ln .none a st).put1 13 = (o,brdS W [] .none a st) := by
  simp [M.Board.put1,h]
 simp [M.Board.isTaking,h1,M.Board.puts]
theorem does_sum (t : M.Board) (line dx dy : M.B) (x y : Nat) (hs : M.splitOn 32 line = [[115,117,109],dx,dy]) (hx : M.hexOf dx = some x) (hy : M.hexOf dy = some y) (hf : M.fits x y = true) : t.does line = (M.lineOf x y (M.printOf (t.read x y)) ++ M.prompt,t) := by
 have h1 : ¬ ([115,117,109] = M.str "load") := by decide +kernel
 have h2 : ([115,117,109] : M.B) = M.str "sum" := by decide +kernel
 unfold M.Board.does
 rw [hs]
 simp only [hx,hy]
 rw [if_neg (fun h => h1 h.1),if_pos ⟨h2,hf⟩]
def sumL (n : Nat) : M.B := [115,117,109,32,49,48,48,48,32] ++ M.digits 16 n
theorem ask_is (n : Nat) : M.askOf 4096 n = sumL n ++ [13] := by
 have h1 : M.str "sum " = [115,117,109,32] := by decide +kernel
 have h2 : M.digits 16 4096 = [49,48,48,48] := by decide +kernel
 unfold M.askOf sumL
 rw [h1,h2]
 simp
theorem sumL_len (n : Nat) (h : n < 4294967296) : (sumL n).length ≤ 17 := by
 have := digits8 n h
 simp [sumL]
 omega
theorem sumL_13 (n : Nat) : ∀ c,c ∈ sumL n → c ≠ 13 := by
 intro c hc
 unfold sumL at hc
 rw [List.mem_append] at hc
 rcases hc with hc | hc
 ·simp only [List.mem_cons,List.not_mem_nil,or_false] at hc
  rcases hc with rfl | rfl | rfl | rfl | rfl | rfl | rfl | rfl | rfl <;> decide
 ·have := digits_hex n c hc
  intro e
  subst e
  unfold hexC at this
  simp at this
def sumOk (n : Nat) : Bool := M.splitOn 32 (sumL n) == [[115,117,109],[49,48,48,48],M.digits 16 n] && (M.hexOf (M.digits 16 n) == some n && M.fits 4096 n)
theorem sumOk_all : ∀ n : Fin 1025,sumOk n.val = true := by decide +kernel
theorem hex1000 : M.hexOf [49,48,48,48] = some 4096 := by decide +kernel
theorem sum_does (n : Nat) (h : n ≤ 1024) (t : M.Board) : t.does (sumL n) = (M.lineOf 4096 n (M.printOf (t.read 4096 n)) ++ M.prompt,t) := by
 have := sumOk_all ⟨n,by omega⟩
 simp only [sumOk,Bool.and_eq_true,beq_iff_eq] at this
 exact does_sum t _ _ _ 4096 n this.1 hex1000 this.2.1 this.2.2
theorem brd_ask (W a n : Nat) (st : Nat → UInt8) (h : n ≤ 1024) : (brdS W [] .none a st).put (M.askOf 4096 n) = (M.lineOf 4096 n (M.printOf ((brdS W [] .none a st).read 4096 n)) ++ M.prompt,brdS W [] .none a st) := by
 have h0 : ∀ b,(brdS W [] .none a st).put b = M.Board.puts (brdS W [] .none a st) [] b := fun b => by simp [M.Board.put,M.Board.isTaking]
 rw [h0,ask_is,puts_line W a st (sumL n) [] [] [13] (sumL_13 n) (by have := sumL_len n (by omega);simp;omega),List.nil_append]
 exact puts_end W a st (sumL n) _ (sum_does n h _)
theorem line_is (n p : Nat) : M.lineOf 4096 n p = [115,117,109,32,49,48,48,48,32] ++ (M.digits 16 n ++ [32] ++ (M.digits 16 p ++ [13,10])) := by
 have h1 : M.str "sum " = [115,117,109,32] := by decide +kernel
 have h2 : M.digits 16 4096 = [49,48,48,48] := by decide +kernel
 unfold M.lineOf
 rw [h1,h2]
 simp
theorem line_len (n p : Nat) (hn : n < 4294967296) (hp : p < 4294967296) : (M.lineOf 4096 n p).length ≤ 28 ∧ 0 < (M.lineOf 4096 n p).length := by
 have h1 := digits8 n hn
 have h2 := digits8 p hp
 rw [line_is]
 simp
 omega
def lineC (c : UInt8) : Prop := hexC c ∨ c = 115 ∨ c = 117 ∨ c = 109 ∨ c = 32 ∨ c = 13 ∨ c = 10
theorem line_chars (n p : Nat) : ∀ c,c ∈ M.lineOf 4096 n p → lineC c := by
 intro c hc
 rw [line_is] at hc
 simp only [List.mem_append,List.mem_cons,List.not_mem_nil,or_false] at hc
 rcases hc with (rfl | rfl | rfl | rfl | rfl | rfl | rfl | rfl | rfl) | (hc | rfl) | hc | rfl | rfl
 ·exact .inr (.inl rfl)
 ·exact .inr (.inr (.inl rfl))
 ·exact .inr (.inr (.inr (.inl rfl)))
 ·exact .inr (.inr (.inr (.inr (.inl rfl))))
 ·exact .inl (.inl ⟨by decide,by decide⟩)
 ·exact .inl (.inl ⟨by decide,by decide⟩)
 ·exact .inl (.inl ⟨by decide,by decide⟩)
 ·exact .inl (.inl ⟨by decide,by decide⟩)
 ·exact .inr (.inr (.inr (.inr (.inl rfl))))
 ·exact .inl (digits_hex n c hc)
 ·exact .inr (.inr (.inr (.inr (.inl rfl))))
 ·exact .inl (digits_hex p c hc)
 ·exact .inr (.inr (.inr (.inr (.inr (.inl rfl)))))
 ·exact .inr (.inr (.inr (.inr (.inr (.inr rfl)))))
theorem lineC_62 {c : UInt8} (h : lineC c) : c ≠ 62 := by
 intro e
 subst e
 rcases h with h | h | h | h | h | h | h
 ·unfold hexC at h;simp at h
 all_goals cases h
theorem not_suffix (l u : M.B) (c : UInt8) (h1 : c ∈ l) (h2 : c ∉ u) : ¬ l <:+ u := fun h => h2 (h.subset h1)
end Go.Proofs.YtplaamfoeaaaiaaGreatDoor
namespace Go.Proofs.YtplaamfoeaaaiaaGreatDoor
open Go.RowKit
def hput (h : M.Host) (b : M.B) : M.Host := if b = [] then h else h.put b
theorem hput_nil (h : M.Host) : hput h [] = h := rfl
theorem hput_fit (h : M.Host) (b : M.B) (hq : h.ring.q = []) (hl : b.length ≤ h.ring.cap) (h0 : h.ring.lost = 0) : hput h b = { h with ring := ⟨h.ring.cap,b,0⟩ } := by
 unfold hput
 split
 ·rename_i e
  subst e
  rw [← hq,← h0]
 ·unfold M.Host.put M.Ring.put
  simp only [hq,h0,List.length_nil,Nat.sub_zero,List.nil_append,Nat.min_eq_left hl,List.take_length,Nat.sub_self,Nat.add_zero]
  rw [if_neg (by omega)]
theorem hput_over (h : M.Host) (b : M.B) (hq : h.ring.q = []) (hl : h.ring.cap < b.length) (h0 : h.ring.lost = 0) (hp : h.phase ≠ 7) : (hput h b).phase = 7 ∧ (hput h b).err = 13 ∧ (hput h b).k = h.k := by
 have hb : b ≠ [] := fun e => by subst e;simp at hl
 unfold hput
 rw [if_neg hb]
 unfold M.Host.put M.Ring.put
 simp only [hq,h0,List.length_nil,Nat.sub_zero,List.nil_append,Nat.zero_add]
 rw [if_pos ⟨by omega,hp⟩]
 exact ⟨rfl,rfl,rfl⟩
theorem hput_lost (h : M.Host) (b : M.B) : (hput h b).ring.lost ≤ h.ring.lost + b.length := by
 unfold hput
 split
 ·exact Nat.le_add_right _ _
 ·unfold M.Host.put M.Ring.put
  dsimp only
  split
  ·show _ + _ ≤ _;omega
  ·show _ + _ ≤ _;omega
structure Cnt (N : Nat) (s : M.Sys) (B : Nat) : Prop where
 ticks : s.ticks ≤ B
 dn : s.down.n ≤ B
 dm : s.down.marks ≤ B
 ua : s.up.acts = []
 un : s.up.n ≤ B
 um : s.up.marks ≤ B
 num : N ≤ B
theorem say_eq (s : M.Sys) (b : M.B) (n m : Nat) (hu : s.up = ⟨[],n,m⟩) : s.say b = { s with up := ⟨[],n + b.length,m + b.length⟩,host := hput s.host b } := by
 have h := (clean_nil n m).pass b
 unfold M.Sys.say hput
 simp only [hu,h]
theorem tick_all {N B : Nat} {s : M.Sys} {h1 : M.Host} {bs : M.B} {dn : M.Wire} {r1 r2 : M.B} {b1 b2 : M.Board} (hc : Cnt N s B) (hB : B ≤ 900000) (hh : HTickOk s.host ∧ s.host.tick = h1) (hpass : s.down.pass h1.out = (bs,dn)) (ho : h1.out.length ≤ 1500) (hbo : bs ≠ [] → BoardOk s.board bs) (hbp : (if bs = [] then (([] : M.B),s.board) else s.board.put bs) = (r1,b1)) (htk : TickOk b1 ∧ b1.tick = (r2,b2)) (l1 : r1.length ≤ 300) (l2 : r2.length ≤ 300) (hlost : h1.ring.lost = 0) (hdn : dn.n ≤ s.down.n + 1500 ∧ dn.marks ≤ s.down.marks + 1500) (hbl : bs.length ≤ 1500) :
  STickOk N s ∧ s.tick.host = hput (hput { h1 with out := [] } r1) r2 ∧ s.tick.board = b2 ∧ s.tick.down = dn ∧ Cnt (N + (downs s).length) s.tick (B + 2000) := by
 obtain ⟨host,board,down,up,ticks⟩ := s
 obtain ⟨c1,c2,c3,c4,c5,c6,c7⟩ := hc
 obtain ⟨ua,un,um⟩ := up
 simp only at c1 c2 c3 c4 c5 c6 hh hpass hbo hbp hdn
 subst c4
 obtain ⟨hh1,hh2⟩ := hh
 obtain ⟨t1,t2⟩ := htk
 obtain ⟨s,hs⟩ : ∃ s : M.Sys,s = ⟨host,board,down,⟨[],un,um⟩,ticks⟩ := ⟨_,rfl⟩
 rw [← hs]
 have eD : downs s = bs := by rw [hs];unfold downs;simp only [hh2,hpass]
 have eA : sysA s = ⟨{ h1 with out := [] },board,dn,⟨[],un,um⟩,ticks + 1⟩ := by rw [hs];unfold sysA;simp only [hh2,hpass]
 have eB : sysB s = ⟨hput { h1 with out := [] } r1,b1,dn,⟨[],un + r1.length,um + r1.length⟩,ticks + 1⟩ := by
  unfold sysB
  by_cases hb : bs = []
  ·rw [if_pos hb] at hbp
   obtain ⟨rfl,rfl⟩ : r1 = [] ∧ b1 = board := by simpa [eq_comm] using hbp
   rw [eD,if_pos hb,eA]
   rfl
  ·rw [if_neg hb] at hbp
   have e1 : sysB1 s = ⟨{ h1 with out := [] },b1,dn,⟨[],un,um⟩,ticks + 1⟩ := by unfold sysB1;simp only [eA,eD,hbp]
   rw [eD,if_neg hb,e1,eA]
   simp only [hbp]
   exact say_eq _ _ un um rfl
 have eC : sysC s = ⟨hput { h1 with out := [] } r1,b2,dn,⟨[],un + r1.length,um + r1.length⟩,ticks + 1⟩ := by unfold sysC;simp only [eB,t2]
 have eT : s.tick = ⟨hput (hput { h1 with out := [] } r1) r2,b2,dn,⟨[],un + r1.length + r2.length,um + r1.length + r2.length⟩,ticks + 1⟩ := by
  rw [systick_eq,eB,eC]
  simp only [t2]
  exact say_eq _ _ _ _ rfl
 have hl1 := hput_lost { h1 with out := [] } r1
 simp only [hlost] at hl1
 refine ⟨⟨by rw [hs];show ticks ≤ _;omega,by rw [hs];exact hh1,by rw [hs];show down.n + (M.Host.tick host).out.length ≤ _;rw [hh2];omega,by rw [hs];show down.marks + (M.Host.tick host).out.length ≤ _;rw [hh2];omega,fun hn => ?_,by rw [eD];omega,by rw [eB];exact t1,?_⟩,by rw [eT],by rw [eT],by rw [eT],?_⟩
 ·rw [eD] at hn ⊢
  rw [if_neg hn] at hbp
  have e1 : sysB1 s = ⟨{ h1 with out := [] },b1,dn,⟨[],un,um⟩,ticks + 1⟩ := by unfold sysB1;simp only [eA,eD,hbp]
  rw [e1,eA]
  simp only [hbp]
  refine ⟨by rw [hs];exact hbo hn,?_⟩
  unfold SayOk
  rw [(clean_nil un um).pass r1]
  simp only [hlost]
  omega
 ·rw [eB,eC]
  simp only [t2]
  unfold SayOk
  simp only
  rw [(clean_nil (un + r1.length) (um + r1.length)).pass r2]
  simp only
  omega
 ·rw [eD,eT]
  exact ⟨by simp only;omega,by simp only;omega,by simp only;omega,rfl,by simp only;omega,by simp only;omega,by omega⟩
def TK (x : M.Host) (u : M.B) (y : M.Host) : Prop := u.foldl M.Host.take x = y ∧ ∀ v,TakesOk y v → TakesOk x (u ++ v)
theorem TK.nil (x : M.Host) : TK x [] x := ⟨rfl,fun _ h => h⟩
theorem TK.trans {x y z : M.Host} {u v : M.B} (h : TK x u y) (g : TK y v z) : TK x (u ++ v) z := by
 refine ⟨by rw [List.foldl_append,h.1,g.1],fun r hr => ?_⟩
 rw [List.append_assoc]
 exact h.2 _ (g.2 _ hr)
theorem TK.one {x y : M.Host} {c : UInt8} (h1 : x.heard ≤ 1000000) (h2 : x.out.length ≤ 800000) (h : TakeOk x c) (e : x.take c = y) : TK x [c] y := by
 subst e
 exact ⟨rfl,fun v hv => ⟨h1,h2,h,hv⟩⟩
theorem htick_of {x y z : M.Host} {q : M.B} (hq : x.ring.q = q) (h : TK (drained x) q y) (hl : LastOk y) (ho : y.out.length ≤ 800000) (e : afterT y = z) : HTickOk x ∧ x.tick = z := by
 have h0 := h.2 [] trivial
 rw [List.append_nil] at h0
 refine ⟨⟨by rw [hq];exact h0,by rw [hq,h.1];exact ho,by rw [hq,h.1];exact hl⟩,?_⟩
 rw [tick_after,hq,h.1,e]
theorem WRep.ok {y : M.Watch} {u : M.B} (h : WRep y u) : WatchOk y := ⟨h.over,h.ne⟩
theorem tk_waits : ∀ (u pre : M.B) (x : M.Host),(x.phase = 2 ∨ x.phase = 3 ∨ x.phase = 4) → WRep x.watch pre → (∀ j,j < u.length → ∀ l,l ∈ x.watch.lits → ¬ l <:+ pre ++ u.take (j + 1)) → x.heard + u.length ≤ 1000000 → x.out.length ≤ 800000 →
  ∃ y,WRep y (pre ++ u) ∧ y.lits = x.watch.lits ∧ TK x u { x with heard := x.heard + u.length,watch := y }
 | [],pre,x,_,hr,_,_,_ => ⟨x.watch,by simpa using hr,rfl,TK.nil x⟩
 | c :: u,pre,x,hp,hr,hn,hh,ho => by
  have h0 := hn 0 (by simp)
  simp only [Nat.zero_add,List.take_succ_cons,List.take_zero] at h0
  obtain ⟨h1,h2,h3⟩ := wput_none hr c h0
  simp only [List.length_cons] at hh
  obtain ⟨y,y1,y2,y3⟩ := tk_waits u (pre ++ [c]) { hear x with watch := (x.watch.put c).2 } hp h2 (fun j hj l hl => by
   simp only at hl
   rw [h3] at hl
   have := hn (j + 1) (by simp;omega) l hl
   simpa [List.append_assoc] using this) (by simp only;omega) ho
  refine ⟨y,by simpa [List.append_assoc] using y1,by rw [y2];exact h3,?_⟩
  have a := TK.one (by omega) ho (.waits hp hr.ok h1) (take_waits x c hp h1)
  have b := a.trans y3
  have e : x.heard + 1 + u.length = x.heard + (c :: u).length := by simp only [List.length_cons];omega
  simp only [e] at b
  exact b
theorem tk_hears : ∀ (u pre : M.B) (x : M.Host),x.phase = 0 → x.playState = 0 → WRep x.playW pre → (∀ j,j < u.length → ∀ l,l ∈ x.playW.lits → ¬ l <:+ pre ++ u.take (j + 1)) → x.heard + u.length ≤ 1000000 → x.out.length ≤ 800000 →
  ∃ y,WRep y (pre ++ u) ∧ y.lits = x.playW.lits ∧ TK x u { x with heard := x.heard + u.length,playW := y }
 | [],pre,x,_,_,hr,_,_,_ => ⟨x.playW,by simpa using hr,rfl,TK.nil x⟩
 | c :: u,pre,x,hp,hs,hr,hn,hh,ho => by
  have h0 := hn 0 (by simp)
  simp only [Nat.zero_add,List.take_succ_cons,List.take_zero] at h0
  obtain ⟨h1,h2,h3⟩ := wput_none hr c h0
  simp only [List.length_cons] at hh
  obtain ⟨y,y1,y2,y3⟩ := tk_hears u (pre ++ [c]) { hear x with playW := (x.playW.put c).2 } hp hs h2 (fun j hj l hl => by
   simp only at hl
   rw [h3] at hl
   have := hn (j + 1) (by simp;omega) l hl
   simpa [List.append_assoc] using this) (by simp only;omega) ho
  refine ⟨y,by simpa [List.append_assoc] using y1,by rw [y2];exact h3,?_⟩
  have a := TK.one (by omega) ho (.hears hp hs hr.ok h1) (take_hears x c hp hs h1)
  have b := a.trans y3
  have e : x.heard + 1 + u.length = x.heard + (c :: u).length := by simp only [List.length_cons];omega
  simp only [e] at b
  exact b
theorem tk_gives (x : M.Host) (c : UInt8) (s s' : M.Snd) (o : M.B) (hp : x.phase = 1) (hg : x.giver = .one s) (hf : Fine s) (he : s.put c = (o,s')) (hol : o.length ≤ 2000) (hd : s'.done = true → s'.err = 0) (hh : x.heard ≤ 1000000) (ho : x.out.length ≤ 800000) :
  TK x [c] (({ hear x with giver := .one s' } : M.Host).send o).sent := by
 have e1 : x.giver.put c = (o,.one s') := by rw [hg];show ((s.put c).1,M.Giver.one (s.put c).2) = _;rw [he]
 have hF : SndFine x.giver := by rw [hg];exact hf
 refine TK.one hh ho (.gives hp hF (by rw [e1];exact hol) ?_) ?_
 ·rw [e1]
  exact ⟨(fun h => by cases h),hd⟩
 ·rw [take_gives x c hp hF,e1]
theorem last_gives (x : M.Host) (s s' : M.Snd) (o : M.B) (hp : x.phase = 1) (hg : x.giver = .one s) (hf : Fine s) (he : s.tick = (o,s')) (hol : o.length ≤ 2000) (hd : s'.done = true → s'.err = 0) :
  LastOk x ∧ afterT x = (({ x with giver := .one s' } : M.Host).send o).sent := by
 have e1 : x.giver.tick = (o,.one s') := by rw [hg];show (s.tick.1,M.Giver.one s.tick.2) = _;rw [he]
 have hF : SndFine x.giver := by rw [hg];exact hf
 refine ⟨.gives hp hF (by rw [e1];exact hol) ?_,?_⟩
 ·rw [e1]
  exact ⟨(fun h => by cases h),hd⟩
 ·rw [after_gives x hp hF,e1]
structure Par where
 W : Nat
 T : Nat
 R : Nat
 nm : M.B
 im : M.B
structure Par.Ok (p : Par) : Prop where
 w2 : 2 ≤ p.W
 w6 : p.W ≤ 6
 i0 : 0 < p.im.length
 i1 : p.im.length ≤ 1000
def Par.ent (p : Par) : M.Entry := ⟨p.nm,4096,p.im.length,M.printOf p.im,1⟩
def Par.bl (p : Par) : List M.Blk := M.number (M.split p.im false)
def Par.line (p : Par) : M.B := M.lineOf 4096 p.im.length (M.printOf p.im)
abbrev Par.hst (p : Par) (ph k : Nat) (pw : M.Watch) (pl ps : Nat) (g : M.Giver) (wt : M.Watch) (lf : Nat) (q : M.B) (hd : Nat) (out : M.B) (er : Nat) : M.Host :=
 ⟨⟨3,p.W⟩,p.T,[p.ent],[p.im],ph,k,0,pw,pl,0,ps,g,wt,lf,⟨p.R,q,0⟩,hd,out,er⟩
theorem Par.Ok.fit {p : Par} (h : p.Ok) : (⟨3,p.W⟩ : M.Cfg).fit = ⟨3,p.W⟩ := by
 have h1 := h.w2
 have h2 := h.w6
 unfold M.Cfg.fit
 simp only [M.Cfg.mk.injEq]
 omega
theorem Par.Ok.wt {p : Par} (h : p.Ok) : max 1 (min p.W 99) = p.W := by
 have h1 := h.w2
 have h2 := h.w6
 omega
theorem prompt_is : M.prompt = [61,62] ++ [32] := rfl
theorem prompt_not (u : M.B) (c : UInt8) (h : c ≠ 32) : ¬ M.prompt <:+ u ++ [c] := by
 rw [prompt_is]
 intro hs
 exact h ((suffix_snoc _ _ _ _).1 hs).1.symm
theorem prompt_in : (62 : UInt8) ∈ M.prompt := by simp [M.prompt]
theorem lits_one {l : M.B} (h : l ∈ [M.prompt]) : l = M.prompt := by simpa using h
theorem wrep_prompt : WRep (M.watchOf [M.prompt]) [] := wrep_of _ (fun l h => by rw [lits_one h];simp [M.prompt])
theorem ht_hears (p : Par) (z : M.B) (hz : (62 : UInt8) ∉ z) (hl : z.length ≤ 1000) (wt : M.Watch) (lf : Nat) :
  ∃ pw,WRep pw z ∧ pw.lits = [M.prompt] ∧ HTickOk (p.hst 0 0 (M.watchOf [M.prompt]) 8 0 .none wt lf z 0 [13] 0) ∧ (p.hst 0 0 (M.watchOf [M.prompt]) 8 0 .none wt lf z 0 [13] 0).tick = p.hst 0 0 pw 7 0 .none wt lf [] z.length [13] 0 := by
 obtain ⟨y,y1,y2,y3⟩ := tk_hears z [] (p.hst 0 0 (M.watchOf [M.prompt]) 8 0 .none wt lf [] 0 [13] 0) rfl rfl wrep_prompt (fun j hj l h => by
  have h' : l = M.prompt := lits_one h
  subst h'
  exact not_suffix _ _ 62 prompt_in (fun h => hz (List.mem_of_mem_take h))) (by simp only;omega) (by simp)
 simp only [Nat.zero_add] at y3
 refine ⟨y,y1,y2,htick_of rfl y3 (.hears rfl rfl (by simp) (by simp)) (by simp) (after_hears _ rfl rfl (by simp))⟩
theorem TK.to {x y z : M.Host} {u : M.B} (h : TK x u y) (e : y = z) : TK x u z := e ▸ h
theorem woken_load (x : M.Host) (h : x.playState = 1) : x.woken = x.load := by unfold M.Host.woken;rw [if_pos h]
theorem ht_wakes (p : Par) (ok : p.Ok) (z : M.B) (pw wt : M.Watch) (lf hd : Nat) (hw : WRep pw z) (hlits : pw.lits = [M.prompt]) (hh : hd ≤ 900000) :
  ∃ pw',HTickOk (p.hst 0 0 pw 7 0 .none wt lf [13,10,61,62,32] hd [] 0) ∧ (p.hst 0 0 pw 7 0 .none wt lf [13,10,61,62,32] hd [] 0).tick = p.hst 1 0 pw' 7 1 (.one (sndS p.W p.bl 0 0 1 (p.W - 1))) wt lf [] (hd + 5) (M.loadOf 1 4096) 0 := by
 obtain ⟨y,y1,y2,y3⟩ := tk_hears [13,10,61,62] z (p.hst 0 0 pw 7 0 .none wt lf [] hd [] 0) rfl rfl hw (fun j hj l h => by
  have h' : l = M.prompt := lits_one (by rw [← hlits];exact h)
  subst h'
  have : j = 0 ∨ j = 1 ∨ j = 2 ∨ j = 3 := by simp at hj;omega
  rcases this with rfl | rfl | rfl | rfl
  ·exact prompt_not z 13 (by decide)
  ·have := prompt_not (z ++ [13]) 10 (by decide);simpa using this
  ·have := prompt_not (z ++ [13,10]) 61 (by decide);simpa using this
  ·have := prompt_not (z ++ [13,10,61]) 62 (by decide);simpa using this) (by simp;omega) (by simp)
 have hp : (y.put 32).1 = some 0 := wput_some y1 32 M.prompt (by rw [y2,hlits];rfl) ⟨z ++ [13,10],by simp [M.prompt]⟩
 have hfit := ok.fit
 have i0 := ok.i0
 have i1 := ok.i1
 have w2 := ok.w2
 have hload : ∀ (a : M.Watch) (b : Nat),(p.hst 0 0 a 7 1 .none wt lf [] b [] 0).load = p.hst 1 0 a 7 1 (.one (sndS p.W p.bl 0 0 1 p.W)) wt lf [] b (M.loadOf 1 4096) 0 := fun a b => by
  unfold M.Host.load
  simp [Par.ent,M.sndOf,M.Host.send,hfit,Par.bl]
 have t1 : TK (p.hst 0 0 y 7 0 .none wt lf [] (hd + 4) [] 0) [32] (p.hst 1 0 (y.put 32).2 7 1 (.one (sndS p.W p.bl 0 0 1 p.W)) wt lf [] (hd + 5) (M.loadOf 1 4096) 0) := by
  refine TK.one (by simp only;omega) (by simp) (.wakes rfl rfl y1.ok hp ⟨p.ent,p.im,rfl,rfl,(by simp [Par.ent]),by simp,.inr ⟨.inr rfl,i0,by omega⟩⟩) ?_
  rw [take_wakes _ _ rfl rfl hp,woken_load _ rfl]
  exact hload _ _
 have t := y3.trans t1
 obtain ⟨l1,l2⟩ := last_gives (p.hst 1 0 (y.put 32).2 7 1 (.one (sndS p.W p.bl 0 0 1 p.W)) wt lf [] (hd + 5) (M.loadOf 1 4096) 0) _ _ _ rfl rfl ⟨fun h => by simp at h,.inl (by simp only;omega)⟩ (snd_tick p.W p.bl 0 0 1 p.W (by decide) w2) (by simp) (fun h => by cases h)
 refine ⟨(y.put 32).2,htick_of rfl t l1 (by simp only;have := loadOf_len 1 4096;omega) ?_⟩
 refine l2.trans ((sent_no (({ (p.hst 1 0 (y.put 32).2 7 1 .none wt lf [] (hd + 5) (M.loadOf 1 4096) 0) with giver := .one (sndS p.W p.bl 0 0 1 (p.W - 1)) } : M.Host).send []) rfl).trans ?_)
 unfold M.Host.send
 simp only [List.append_nil]
theorem ht_gives (p : Par) (c : UInt8) (s s1 s2 : M.Snd) (o o2 : M.B) (pw wt : M.Watch) (pl ps lf hd : Nat) (hs : s.put c = (o,s1)) (h1 : s1.tick = (o2,s2)) (f0 : Fine s) (f1 : Fine s1) (d1 : s1.done = false) (d2 : s2.done = false) (ho : o.length ≤ 2000) (ho2 : o2.length ≤ 2000) (hh : hd ≤ 900000) :
  HTickOk (p.hst 1 0 pw pl ps (.one s) wt lf [c] hd [] 0) ∧ (p.hst 1 0 pw pl ps (.one s) wt lf [c] hd [] 0).tick = p.hst 1 0 pw pl ps (.one s2) wt lf [] (hd + 1) (o ++ o2) 0 := by
 have t1 := tk_gives (p.hst 1 0 pw pl ps (.one s) wt lf [] hd [] 0) c s s1 o rfl rfl f0 hs ho (fun h => by rw [d1] at h;cases h) (by simp only;omega) (by simp)
 have t2 := t1.to (sent_no (p.hst 1 0 pw pl ps (.one s1) wt lf [] (hd + 1) o 0) d1)
 obtain ⟨l1,l2⟩ := last_gives (p.hst 1 0 pw pl ps (.one s1) wt lf [] (hd + 1) o 0) s1 s2 o2 rfl rfl f1 h1 ho2 (fun h => by rw [d2] at h;cases h)
 exact htick_of rfl t2 l1 (by simp only;omega) (l2.trans (sent_no (p.hst 1 0 pw pl ps (.one s2) wt lf [] (hd + 1) (o ++ o2) 0) d2))
theorem ht_idle (p : Par) (s s2 : M.Snd) (o2 : M.B) (pw wt : M.Watch) (pl ps lf hd : Nat) (h1 : s.tick = (o2,s2)) (f1 : Fine s) (d2 : s2.done = false) (ho2 : o2.length ≤ 2000) :
  HTickOk (p.hst 1 0 pw pl ps (.one s) wt lf [] hd [] 0) ∧ (p.hst 1 0 pw pl ps (.one s) wt lf [] hd [] 0).tick = p.hst 1 0 pw pl ps (.one s2) wt lf [] hd o2 0 := by
 obtain ⟨l1,l2⟩ := last_gives (p.hst 1 0 pw pl ps (.one s) wt lf [] hd [] 0) s s2 o2 rfl rfl f1 h1 ho2 (fun h => by rw [d2] at h;cases h)
 exact htick_of rfl (TK.nil _) l1 (by simp) (l2.trans (sent_no (p.hst 1 0 pw pl ps (.one s2) wt lf [] hd o2 0) d2))
theorem plain_line {c : UInt8} (h : lineC c) : plainC c.toNat := by
 have h2 : (48 ≤ c.toNat ∧ c.toNat ≤ 57) ∨ (97 ≤ c.toNat ∧ c.toNat ≤ 102) ∨ c.toNat = 115 ∨ c.toNat = 117 ∨ c.toNat = 109 ∨ c.toNat = 32 ∨ c.toNat = 13 ∨ c.toNat = 10 := by
  rcases h with h | rfl | rfl | rfl | rfl | rfl | rfl
  ·unfold hexC at h;omega
  all_goals simp
 unfold plainC
 omega
theorem Par.Ok.ask {p : Par} (ok : p.Ok) (x : M.Host) (ho : x.out.length ≤ 900000) : AskOk x p.ent := by
 have i1 := ok.i1
 have hp := printOf_lt p.im
 have hl := line_len p.im.length (M.printOf p.im) (by omega) hp
 exact ⟨(by simp [Par.ent]),(by show p.im.length < _;omega),hp,Nat.le_trans hl.1 (by omega),fun c hc => plain_line (line_chars _ _ c hc),ho⟩
theorem tk_prompt (x : M.Host) (u : M.B) (hu : u = [13,10,61,62] ∨ u = [61,62]) (hp : x.phase = 2 ∨ x.phase = 3 ∨ x.phase = 4) (hw : x.watch = M.watchOf [M.prompt]) (hh : x.heard ≤ 900000) (ho : x.out.length ≤ 800000) (hm : ∀ y,MetOk { x with heard := x.heard + u.length + 1,watch := y } 0) :
  ∃ y,TK x (u ++ [32]) (({ x with heard := x.heard + u.length + 1,watch := y } : M.Host).met 0) := by
 have hul : u.length ≤ 4 := by rcases hu with rfl | rfl <;> simp
 obtain ⟨y,y1,y2,y3⟩ := tk_waits u [] x hp (by rw [hw];exact wrep_prompt) (fun j hj l h => by
  rw [hw] at h
  have h' : l = M.prompt := lits_one h
  subst h'
  rcases hu with rfl | rfl
  ·have : j = 0 ∨ j = 1 ∨ j = 2 ∨ j = 3 := by simp at hj;omega
   rcases this with rfl | rfl | rfl | rfl
   ·exact prompt_not [] 13 (by decide)
   ·exact prompt_not [13] 10 (by decide)
   ·exact prompt_not [13,10] 61 (by decide)
   ·exact prompt_not [13,10,61] 62 (by decide)
  ·have : j = 0 ∨ j = 1 := by simp at hj;omega
   rcases this with rfl | rfl
   ·exact prompt_not [] 61 (by decide)
   ·exact prompt_not [61] 62 (by decide)) (by omega) ho
 have hs : (y.put 32).1 = some 0 := by
  refine wput_some y1 32 M.prompt (by rw [y2,hw];rfl) ?_
  rcases hu with rfl | rfl
  ·exact ⟨[13,10],rfl⟩
  ·exact ⟨[],rfl⟩
 refine ⟨(y.put 32).2,y3.trans (TK.one (by simp only;omega) ho (.meets 0 hp y1.ok hs (hm _)) ?_)⟩
 exact take_meets _ _ 0 hp hs
theorem ht_asks (p : Par) (ok : p.Ok) (s s1 : M.Snd) (pw wt : M.Watch) (pl ps lf hd : Nat) (hs : s.put 6 = ([],s1)) (f0 : Fine s) (d1 : s1.done = true) (e1 : s1.err = 0) (hh : hd ≤ 800000) :
  HTickOk (p.hst 1 0 pw pl ps (.one s) wt lf [6,13,10,61,62,32] hd [] 0) ∧ (p.hst 1 0 pw pl ps (.one s) wt lf [6,13,10,61,62,32] hd [] 0).tick = p.hst 3 0 pw pl ps (.one s1) (M.watchOf [p.line,M.prompt]) (4 * p.W - 1) [] (hd + 6) (M.askOf 4096 p.im.length) 0 := by
 have w2 := ok.w2
 have w6 := ok.w6
 have t1 := tk_gives (p.hst 1 0 pw pl ps (.one s) wt lf [] hd [] 0) 6 s s1 [] rfl rfl f0 hs (by simp) (fun _ => e1) (by simp only;omega) (by simp)
 replace t1 := t1.to (sent_ok (p.hst 1 0 pw pl ps (.one s1) wt lf [] (hd + 1) [] 0) d1 e1)
 have e2 : (p.hst 1 0 pw pl ps (.one s1) wt lf [] (hd + 1) [] 0).wait_ 2 [M.prompt] = p.hst 2 0 pw pl ps (.one s1) (M.watchOf [M.prompt]) (4 * p.W) [] (hd + 1) [] 0 := by
  unfold M.Host.wait_
  simp only [ok.wt]
 replace t1 := t1.to e2
 obtain ⟨y,t2⟩ := tk_prompt (p.hst 2 0 pw pl ps (.one s1) (M.watchOf [M.prompt]) (4 * p.W) [] (hd + 1) [] 0) [13,10,61,62] (.inl rfl) (.inl rfl) rfl (by simp only;omega) (by simp) (fun y => ⟨p.ent,rfl,.inl ⟨rfl,ok.ask _ (by simp)⟩⟩)
 have e3 : (({ (p.hst 2 0 pw pl ps (.one s1) (M.watchOf [M.prompt]) (4 * p.W) [] (hd + 1) [] 0) with heard := hd + 1 + 4 + 1,watch := y } : M.Host).met 0) = p.hst 3 0 pw pl ps (.one s1) (M.watchOf [p.line,M.prompt]) (4 * p.W) [] (hd + 6) (M.askOf 4096 p.im.length) 0 := by
  unfold M.Host.met M.Host.wait_ M.Host.send
  simp [Par.ent,ok.wt,Par.line]
 have t := t1.trans (t2.to e3)
 refine htick_of rfl t (.waits (.inr (.inl rfl)) (by simp only;omega) (by simp only;omega)) (by
  have hl := sumL_len p.im.length (by have := ok.i1;omega)
  simp only [ask_is,List.length_append,List.length_cons,List.length_nil];omega) ?_
 rw [after_waits _ (.inr (.inl rfl))]
 unfold M.Host.late
 simp only
 rw [if_pos (by omega)]
theorem ht_ends (p : Par) (ok : p.Ok) (g : M.Giver) (pw : M.Watch) (pl ps lf hd : Nat) (hh : hd ≤ 800000) :
  ∃ z,HTickOk (p.hst 3 0 pw pl ps g (M.watchOf [p.line,M.prompt]) lf (p.line ++ M.prompt) hd [] 0) ∧ (p.hst 3 0 pw pl ps g (M.watchOf [p.line,M.prompt]) lf (p.line ++ M.prompt) hd [] 0).tick = z ∧ z.phase = 7 ∧ z.err = 0 ∧ z.k = 1 ∧ z.out = [] ∧ z.ring.lost = 0 := by
 have i1 := ok.i1
 obtain ⟨hl1,hl2⟩ := line_len p.im.length (M.printOf p.im) (by omega) (printOf_lt p.im)
 obtain ⟨u,hu⟩ : ∃ u,p.line = u ++ [10] := ⟨[115,117,109,32,49,48,48,48,32] ++ M.digits 16 p.im.length ++ [32] ++ M.digits 16 (M.printOf p.im) ++ [13],by unfold Par.line;rw [line_is];simp only [List.append_assoc,List.cons_append,List.nil_append]⟩
 have hul : u.length + 1 = p.line.length := by rw [hu];simp
 have hlp : p.line.length ≤ 28 := hl1
 have h62 : ∀ c,c ∈ p.line → c ≠ 62 := fun c hc => lineC_62 (line_chars _ _ c hc)
 have hw : WRep (M.watchOf [p.line,M.prompt]) [] := wrep_of _ (fun l h => by
  simp only [List.mem_cons,List.not_mem_nil,or_false] at h
  rcases h with rfl | rfl
  ·exact hl2
  ·simp [M.prompt])
 obtain ⟨y,y1,y2,y3⟩ := tk_waits u [] (p.hst 3 0 pw pl ps g (M.watchOf [p.line,M.prompt]) lf [] hd [] 0) (.inr (.inl rfl)) hw (fun j hj l h => by
  have h' : l = p.line ∨ l = M.prompt := by
   have h2 : l ∈ [p.line,M.prompt] := h
   simpa using h2
  rw [List.nil_append]
  rcases h' with rfl | rfl
  ·intro hs
   have := hs.length_le
   rw [List.length_take] at this
   omega
  ·exact not_suffix _ _ 62 prompt_in (fun hm => h62 62 (by rw [hu];exact List.mem_append_left _ (List.mem_of_mem_take hm)) rfl)) (by simp only;omega) (by simp)
 have hs : (y.put 10).1 = some 0 := wput_some y1 10 p.line (by rw [y2];rfl) (by rw [List.nil_append,← hu];exact List.suffix_refl _)
 have t2 : TK (p.hst 3 0 pw pl ps g y lf [] (hd + u.length) [] 0) [10] (p.hst 4 0 pw pl ps g (M.watchOf [M.prompt]) (4 * p.W) [] (hd + u.length + 1) [] 0) := by
  refine TK.one (by simp only;omega) (by simp) (.meets 0 (.inr (.inl rfl)) y1.ok hs ⟨p.ent,rfl,.inr (.inl ⟨rfl,rfl⟩)⟩) ?_
  rw [take_meets _ _ 0 (.inr (.inl rfl)) hs]
  unfold M.Host.met M.Host.wait_
  simp [Par.ent,ok.wt]
 obtain ⟨y4,t3⟩ := tk_prompt (p.hst 4 0 pw pl ps g (M.watchOf [M.prompt]) (4 * p.W) [] (hd + u.length + 1) [] 0) [61,62] (.inr rfl) (.inr (.inr rfl)) rfl (by simp only;omega) (by simp) (fun y => ⟨p.ent,rfl,.inr (.inr ⟨rfl,.inl rfl⟩)⟩)
 have t := (y3.trans t2).trans t3
 have eq : u ++ [10] ++ ([61,62] ++ [32]) = p.line ++ M.prompt := by rw [← hu];rfl
 rw [eq] at t
 refine ⟨_,htick_of rfl t (.over ?_) ?_ (after_over _ ?_) |>.1,htick_of rfl t (.over ?_) ?_ (after_over _ ?_) |>.2,?_,?_,?_,?_,?_⟩
 all_goals (unfold M.Host.met M.Host.next M.Host.end_;simp [Par.ent])
def Good (n N : Nat) (s : M.Sys) (P : M.Sys → Prop) : Prop := RunOk n N s ∧ P (s.run n)
theorem Good.over {n N : Nat} {s : M.Sys} {P : M.Sys → Prop} (h : s.host.phase = 7) (hP : P s) : Good n N s P := by
 refine ⟨?_,by rw [run_over _ _ h];exact hP⟩
 cases n with
 | zero => trivial
 | succ n => exact .inl h
theorem Good.step {n N : Nat} {s : M.Sys} {P : M.Sys → Prop} (h : s.host.phase ≠ 7) (hk : STickOk N s) (hg : Good n (N + (downs s).length) s.tick P) : Good (n + 1) N s P :=
 ⟨.inr ⟨h,hk,hg.1⟩,by rw [run_step _ _ h];exact hg.2⟩
structure At (N B : Nat) (s : M.Sys) (h : M.Host) (b : M.Board) : Prop where
 host : s.host = h
 board : s.board = b
 clean : Clean s.down
 cnt : Cnt N s B
theorem At.tick {N B : Nat} {s : M.Sys} {h h1 : M.Host} {b b1 b2 : M.Board} {r1 r2 : M.B} (a : At N B s h b) (hB : B ≤ 900000) (hh : HTickOk h ∧ h.tick = h1) (ho : h1.out.length ≤ 1500) (hbo : h1.out ≠ [] → BoardOk b h1.out) (hbp : (if h1.out = [] then (([] : M.B),b) else b.put h1.out) = (r1,b1)) (htk : TickOk b1 ∧ b1.tick = (r2,b2)) (l1 : r1.length ≤ 300) (l2 : r2.length ≤ 300) (hlost : h1.ring.lost = 0) :
  STickOk N s ∧ At (N + (downs s).length) (B + 2000) s.tick (hput (hput { h1 with out := [] } r1) r2) b2 := by
 obtain ⟨h0,hb,hc,hn⟩ := a
 subst h0
 subst hb
 obtain ⟨t1,t2,t3,t4,t5⟩ := tick_all hn hB hh (hc.pass h1.out) ho hbo hbp htk l1 l2 hlost ⟨by simp only;omega,by simp only;omega⟩ ho
 exact ⟨t1,t2,t3,by rw [t4];exact hc.next _ _,t5⟩
def Par.dat (p : Par) (j : Nat) : M.B := ((M.split p.im false).take j).flatten
theorem Par.bl_len (p : Par) : p.bl.length = (p.im.length + 127) / 128 := by
 unfold Par.bl M.number
 rw [numberF_len]
 exact (split_spec _ _ (Nat.le_refl _)).2.1
theorem Par.Ok.nb {p : Par} (ok : p.Ok) : 1 ≤ p.bl.length ∧ p.bl.length ≤ 8 := by
 have h0 := ok.i0
 have h1 := ok.i1
 rw [p.bl_len]
 omega
theorem Par.blk (p : Par) (j : Nat) (h : j < p.bl.length) : ∃ x,p.bl[j]? = some x ∧ x.data.length = 128 ∧ x.number = UInt8.ofNat (j + 1) ∧ p.dat (j + 1) = p.dat j ++ x.data := by
 obtain ⟨s1,s2,_⟩ := split_spec p.im.length p.im (Nat.le_refl _)
 have hl : (M.splitF false p.im.length p.im).length = p.bl.length := by rw [s2,p.bl_len]
 obtain ⟨d,hd⟩ : ∃ d,(M.splitF false p.im.length p.im)[j]? = some d := ⟨_,List.getElem?_eq_getElem (by omega)⟩
 refine ⟨⟨UInt8.ofNat (0 + j + 1),d⟩,?_,s1 d (List.mem_of_getElem? hd),by simp,?_⟩
 ·unfold Par.bl M.number M.split
  rw [numberF_getP,hd]
  rfl
 ·obtain ⟨hj,he⟩ := List.getElem?_eq_some_iff.1 hd
  unfold Par.dat M.split
  rw [List.take_succ_eq_append_getElem hj,List.flatten_append,he]
  simp
theorem Par.dat_len (p : Par) : ∀ j,j ≤ p.bl.length → (p.dat j).length = 128 * j
 | 0,_ => by simp [Par.dat]
 | j + 1,h => by
  obtain ⟨x,_,h2,_,h4⟩ := p.blk j h
  rw [h4,List.length_append,h2,p.dat_len j (by omega)]
  omega
theorem Par.dat_all (p : Par) : ∃ k,p.dat p.bl.length = p.im ++ List.replicate k 26 := by
 obtain ⟨_,s2,k,s3⟩ := split_spec p.im.length p.im (Nat.le_refl _)
 refine ⟨k,?_⟩
 unfold Par.dat M.split
 rw [p.bl_len,← s2,List.take_length,s3]
theorem comes_blk (r : M.Rcv) (x : M.Blk) (h : x.data.length = 128) (hc : r.crc = true) (hx : x.number = r.number) : Comes4 r (blkB x) := by
 have h0 : (blkB x).getD 0 0 = 1 := by rw [blkB_cons];rfl
 have h1 : (blkB x).getD 1 0 = x.number := by rw [blkB_cons];rfl
 have h2 : (blkB x).getD 2 0 = 255 - x.number := by rw [blkB_cons];rfl
 refine .inr ⟨.inl h0,.inr (.inr ⟨128,by rw [h0];rfl,by rw [blkB_len x h,hc];decide,by rw [h1,h2,u255],by rw [h1,hx],?_⟩)⟩
 rw [hc,blk_data x h]
 have : (blkB x).drop (3 + 128) = M.trailer x.data true := blk_trail x h
 rw [this]
 rfl
theorem loaded_vac (t : M.Board) (h : t.taker.over = false) : LoadedOk t := fun h1 => by rw [h] at h1;cases h1
theorem board_ok_one (W a : Nat) (st : Nat → UInt8) (r r' : M.Rcv) (bs o : M.B) (h1 : RPutOk r bs) (h2 : r.put bs = (o,r')) (ho : o.length ≤ 1000000) (hl : LoadedOk (brdS W [] (.one r') a st)) : BoardOk (brdS W [] (.one r) a st) bs := by
 unfold BoardOk
 rw [if_pos (by rfl)]
 refine ⟨h1,by rw [h2];exact ho,?_⟩
 rw [h2]
 exact hl
theorem tick_ok_one (W a : Nat) (st : Nat → UInt8) (nu : UInt8) (bg : Bool) (buf data : M.B) (bk tr lf : Nat) (hl : 2 ≤ lf) (ht : bg = false → 1 ≤ tr) :
  TickOk (brdS W [] (.one (rcvS W nu bg buf data bk tr lf)) a st) ∧ (brdS W [] (.one (rcvS W nu bg buf data bk tr lf)) a st).tick = ([],brdS W [] (.one (rcvS W nu bg buf data bk tr (lf - 1))) a st) := by
 have h := rcv_tick W nu bg buf data bk tr lf hl
 refine ⟨⟨ht,by rw [h];simp,?_⟩,brd_tick W a st _ _ _ h rfl⟩
 rw [h]
 exact loaded_vac _ rfl
theorem board_takes (W a : Nat) (st : Nat → UInt8) (nu : UInt8) (bg : Bool) (data : M.B) (bk tr lf : Nat) (x : M.Blk) (h : x.data.length = 128) (hx : x.number = nu) (hd : data.length ≤ 2000) (hk : bk ≤ 2000) :
  BoardOk (brdS W [] (.one (rcvS W nu bg [] data bk tr lf)) a st) (blkB x) ∧ (brdS W [] (.one (rcvS W nu bg [] data bk tr lf)) a st).put (blkB x) = ([6],brdS W [] (.one (rcvS W (nu + 1) true [] (data ++ x.data) (bk + 1) tr W)) a st) := by
 have hp := rput_blk (rcvS W nu bg [] data bk tr lf) x h rfl rfl rfl rfl hx
 refine ⟨board_ok_one W a st _ _ _ _ ⟨rfl,by rw [blkB_cons];simp,?_,?_,?_,?_⟩ hp (by simp) (loaded_vac _ rfl),brd_put W a st _ _ _ _ hp rfl⟩
 ·simp only [List.length_nil,blkB_len x h];omega
 ·simp only;omega
 ·simp only;omega
 ·rw [List.nil_append]
  exact comes_blk _ x h rfl hx
theorem ofNat_succ (j : Nat) : UInt8.ofNat j + 1 = UInt8.ofNat (j + 1) := by
 apply UInt8.toNat_inj.1
 simp [UInt8.toNat_add,UInt8.toNat_ofNat']
def StA (p : Par) (j N B : Nat) (s : M.Sys) : Prop :=
 ∃ pw pl ps wt lf hd tr lf' tr' st,At N B s (p.hst 1 0 pw pl ps (.one (sndS p.W p.bl 1 (j - 1) tr lf')) wt lf [6] hd [] 0) (brdS p.W [] (.one (rcvS p.W (UInt8.ofNat (j + 1)) true [] (p.dat j) j tr' (p.W - 1))) 4096 st) ∧ 1 ≤ lf' ∧ hd ≤ B
def StE (p : Par) (N B : Nat) (s : M.Sys) : Prop :=
 ∃ pw pl ps wt lf hd st,At N B s (p.hst 1 0 pw pl ps (.one (sndS p.W p.bl 2 p.bl.length 1 (p.W - 1))) wt lf [6,13,10,61,62,32] hd [] 0) (brdS p.W [] .none 4096 st) ∧ (brdS p.W [] .none 4096 st).read 4096 p.im.length = p.im ∧ hd ≤ B
def StL (p : Par) (N B : Nat) (s : M.Sys) : Prop :=
 ∃ g pw pl ps lf hd st,At N B s (p.hst 3 0 pw pl ps g (M.watchOf [p.line,M.prompt]) lf (p.line ++ M.prompt) hd [] 0) (brdS p.W [] .none 4096 st) ∧ (brdS p.W [] .none 4096 st).read 4096 p.im.length = p.im ∧ hd ≤ B
def FinP (p : Par) (s : M.Sys) : Prop :=
 s.host.phase = 7 ∧ ((p.R < 40 ∧ s.host.err = 13 ∧ s.host.k = 0) ∨ (s.host.err = 0 ∧ s.board.read 4096 p.im.length = p.im))
theorem hput_two (h : M.Host) (r : M.B) : hput (hput h r) [] = hput h r := rfl
theorem lost_good {p : Par} {n N B : Nat} {s : M.Sys} {h : M.Host} {b : M.Board} {r : M.B} (a : At N B s (hput h r) b) (hq : h.ring.q = []) (h0 : h.ring.lost = 0) (hp : h.phase ≠ 7) (hc : h.ring.cap = p.R) (hk : h.k = 0) (hr : p.R < r.length) (hl : r.length ≤ 40) : Good n N s (FinP p) := by
 obtain ⟨e1,e2,e3⟩ := hput_over h r hq (by omega) h0 hp
 have h1 : s.host.phase = 7 := by rw [a.host];exact e1
 exact Good.over h1 ⟨h1,.inl ⟨by omega,by rw [a.host];exact e2,by rw [a.host,e3];exact hk⟩⟩
theorem step_ends {p : Par} (ok : p.Ok) {n N B : Nat} {s : M.Sys} (hB : B ≤ 700000) (h : StL p N B s) : Good (n + 1) N s (FinP p) := by
 obtain ⟨g,pw,pl,ps,lf,hd,st,a,hrd,hhd⟩ := h
 obtain ⟨z,z1,z2,z3,z4,z5,z6,z7⟩ := ht_ends p ok g pw pl ps lf hd (by omega)
 obtain ⟨t1,t2⟩ := a.tick (h1 := z) (r1 := []) (r2 := []) (b1 := brdS p.W [] .none 4096 st) (b2 := brdS p.W [] .none 4096 st) (by omega) ⟨z1,z2⟩ (by rw [z6];simp) (fun hn => absurd z6 hn) (by rw [if_pos z6]) ⟨trivial,rfl⟩ (by simp) (by simp) z7
 refine Good.step (by rw [a.host];simp) t1 (Good.over ?_ ?_)
 ·rw [t2.host];exact z3
 ·refine ⟨by rw [t2.host];exact z3,.inr ⟨by rw [t2.host];exact z4,by rw [t2.board];exact hrd⟩⟩
def wordsOk (n : Nat) : Bool := decide (Lib.countB ⟨(sumL n).toArray⟩ ⟨#[32]⟩ = 2) && decide (Lib.splitB ⟨#[32]⟩ 0 2 ⟨(sumL n).toArray⟩ = [⟨sumB.toArray⟩,⟨(M.digits 16 4096).toArray⟩,⟨(M.digits 16 n).toArray⟩])
theorem wordsOk_all : ∀ n : Fin 1025,wordsOk n.val = true := by decide +kernel
theorem sum_ok (n : Nat) (h : n ≤ 1024) : LineOk (sumL n) := by
 have := wordsOk_all ⟨n,by omega⟩
 simp only [wordsOk,Bool.and_eq_true,decide_eq_true_eq] at this
 exact .inr ⟨4096,n,⟨this.1,this.2,by have := sumL_len n (by omega);omega⟩,by omega,by omega,sum_does n h⟩
theorem putsOk_line (W a : Nat) (st : Nat → UInt8) : ∀ (l ln out r : M.B),(∀ c,c ∈ l → c ≠ 13) → ln.length + l.length ≤ 80 → out.length ≤ 1000000 → PutsOk out (brdS W (ln ++ l) .none a st) r → PutsOk out (brdS W ln .none a st) (l ++ r)
 | [],ln,out,r,_,_,_,hk => by simpa using hk
 | c :: l,ln,out,r,h,hl,ho,hk => by
  have hc : c ≠ 13 := h c (by simp)
  simp only [List.length_cons] at hl
  have h1 : (brdS W ln .none a st).put1 c = ([],brdS W (ln ++ [c]) .none a st) := by
   have : ln.length < 80 := by omega
   simp [M.Board.put1,hc,this]
  rw [List.cons_append]
  unfold PutsOk
  rw [if_neg (by simp [M.Board.isTaking]),h1]
  simp only [List.append_nil]
  refine ⟨fun _ e => absurd e hc,ho,putsOk_line W a st l (ln ++ [c]) out r (fun d hd => h d (by simp [hd])) (by simp;omega) ho ?_⟩
  rw [List.append_assoc]
  exact hk
theorem putsOk_end (W a : Nat) (st : Nat → UInt8) (ln o : M.B) (b : M.Board) (hk : LineOk ln) (h : (brdS W [] .none a st).does ln = (o,b)) (ho : o.length ≤ 1000000) : PutsOk [] (brdS W ln .none a st) [13] := by
 have h1 : (brdS W ln .none a st).put1 13 = (o,b) := by simp [M.Board.put1,h]
 unfold PutsOk
 rw [if_neg (by simp [M.Board.isTaking]),h1]
 exact ⟨fun _ _ => hk,by simpa using ho,trivial⟩
theorem step_asks {p : Par} (ok : p.Ok) {n N B : Nat} {s : M.Sys} (hB : B ≤ 600000) (h : StE p N B s) : Good (n + 2) N s (FinP p) := by
 obtain ⟨pw,pl,ps,wt,lf,hd,st,a,hrd,hhd⟩ := h
 have w2 := ok.w2
 have i1 := ok.i1
 obtain ⟨x1,x2⟩ := ht_asks p ok _ _ pw wt pl ps lf hd (snd_6e p.W p.bl p.bl.length 1 (p.W - 1) rfl) ⟨fun h => by simp at h,.inl (by simp only;omega)⟩ rfl rfl (by omega)
 have hne : M.askOf 4096 p.im.length ≠ [] := by rw [ask_is];simp
 have hl := sumL_len p.im.length (by omega)
 have hask : BoardOk (brdS p.W [] .none 4096 st) (M.askOf 4096 p.im.length) := by
  unfold BoardOk
  rw [if_neg (by simp [M.Board.isTaking]),ask_is]
  refine putsOk_line p.W 4096 st (sumL p.im.length) [] [] [13] (sumL_13 _) (by simp;omega) (by simp) ?_
  rw [List.nil_append]
  refine putsOk_end p.W 4096 st _ _ _ (sum_ok _ (by omega)) (sum_does _ (by omega) _) ?_
  have := lineOf_len 4096 p.im.length (M.printOf ((brdS p.W [] .none 4096 st).read 4096 p.im.length))
  simp [M.prompt]
  omega
 have hput := brd_ask p.W 4096 p.im.length st (by omega)
 rw [hrd] at hput
 have hll := (line_len p.im.length (M.printOf p.im) (by omega) (printOf_lt p.im)).1
 have hll2 : (p.line ++ M.prompt).length ≤ 31 := by rw [List.length_append];show p.line.length + 3 ≤ 31;unfold Par.line;omega
 obtain ⟨t1,t2⟩ := a.tick (r1 := p.line ++ M.prompt) (r2 := []) (b1 := brdS p.W [] .none 4096 st) (b2 := brdS p.W [] .none 4096 st) (by omega) ⟨x1,x2⟩ (by simp only [ask_is,List.length_append,List.length_cons,List.length_nil];omega) (fun _ => hask) (by simp only;rw [if_neg hne];exact hput) ⟨trivial,rfl⟩ (by omega) (by simp) rfl
 rw [hput_two] at t2
 refine Good.step (by rw [a.host];simp) t1 ?_
 by_cases hR : (p.line ++ M.prompt).length ≤ p.R
 ·rw [hput_fit _ _ rfl hR rfl] at t2
  exact step_ends ok (by omega : B + 2000 ≤ 700000) ⟨_,_,_,_,_,hd + 6,st,t2,hrd,by omega⟩
 ·exact lost_good t2 rfl rfl (by simp) rfl rfl (by omega) (by omega)
theorem step_eot {p : Par} (ok : p.Ok) {n N B : Nat} {s : M.Sys} (hB : B ≤ 500000) (h : StA p p.bl.length N B s) : Good (n + 3) N s (FinP p) := by
 obtain ⟨pw,pl,ps,wt,lf,hd,tr,lf',tr',st,a,hlf,hhd⟩ := h
 have w2 := ok.w2
 obtain ⟨nb1,nb8⟩ := ok.nb
 obtain ⟨k,hk⟩ := p.dat_all
 have hdl := p.dat_len p.bl.length (Nat.le_refl _)
 obtain ⟨m,hm⟩ : ∃ m,p.bl.length = m + 1 := ⟨p.bl.length - 1,by omega⟩
 have e1 : p.bl.length - 1 = m := by omega
 rw [e1] at a
 have hs := snd_6l p.W p.bl m tr lf' hm
 rw [← hm] at hs
 obtain ⟨x1,x2⟩ := ht_gives p 6 _ _ _ _ _ pw wt pl ps lf hd hs (snd_tick p.W p.bl 2 p.bl.length 1 p.W (by decide) w2) ⟨fun _ => by simp only;omega,.inl hlf⟩ ⟨fun h => by simp at h,.inl (by simp only;omega)⟩ rfl rfl (by simp) (by simp) (by omega)
 have hp := rput_eot (rcvS p.W (UInt8.ofNat (p.bl.length + 1)) true [] (p.dat p.bl.length) p.bl.length tr' (p.W - 1)) rfl rfl rfl
 have hfit : M.fits 4096 (p.dat p.bl.length).length = true := by unfold M.fits;simp;omega
 have hb := brd_eot p.W 4096 st _ [4] _ hp rfl rfl hfit
 obtain ⟨t1,t2⟩ := a.tick (r1 := [6,13,10,61,62,32]) (r2 := []) (b1 := brdS p.W [] .none 4096 (loadSt 4096 (p.dat p.bl.length) st)) (b2 := brdS p.W [] .none 4096 (loadSt 4096 (p.dat p.bl.length) st)) (by omega) ⟨x1,x2⟩ (by simp) (fun _ => board_ok_one p.W 4096 st _ _ _ _ ⟨rfl,by simp,by simp,by simp only;omega,by simp only;omega,.inl ⟨rfl,rfl⟩⟩ hp (by simp) (fun _ _ => ⟨(by show 4096 < 16384;decide),(by show (p.dat p.bl.length).length ≤ 16384 - 4096;omega),(by show 0 < (p.dat p.bl.length).length;omega)⟩)) (by simp only [List.append_nil];rw [if_neg (by simp)];exact hb) ⟨trivial,rfl⟩ (by simp) (by simp) rfl
 rw [hput_two] at t2
 refine Good.step (by rw [a.host];simp) t1 ?_
 by_cases hR : 6 ≤ p.R
 ·rw [hput_fit _ _ rfl (by simpa using hR) rfl] at t2
  exact step_asks ok (by omega : B + 2000 ≤ 600000) ⟨_,_,_,_,_,hd + 1,_,t2,read_load p.W 4096 p.im.length .none [] p.im _ st k rfl hk,by omega⟩
 ·exact lost_good t2 rfl rfl (by simp) rfl rfl (by simp;omega) (by simp)
theorem step_block {p : Par} (ok : p.Ok) (hR : 1 ≤ p.R) {j n N B : Nat} {s : M.Sys} (hB : B ≤ 400000) (hj : 1 ≤ j) (hjn : j < p.bl.length) (h : StA p j N B s) (hg : ∀ N' s',StA p (j + 1) N' (B + 2000) s' → Good n N' s' (FinP p)) : Good (n + 1) N s (FinP p) := by
 obtain ⟨pw,pl,ps,wt,lf,hd,tr,lf',tr',st,a,hlf,hhd⟩ := h
 have w2 := ok.w2
 obtain ⟨nb1,nb8⟩ := ok.nb
 obtain ⟨i,rfl⟩ : ∃ i,j = i + 1 := ⟨j - 1,by omega⟩
 rw [Nat.add_sub_cancel] at a
 obtain ⟨x,y1,y2,y3,y4⟩ := p.blk (i + 1) hjn
 have hdl := p.dat_len (i + 1) (by omega)
 obtain ⟨x1,x2⟩ := ht_gives p 6 _ _ _ _ _ pw wt pl ps lf hd (snd_6 p.W p.bl i tr lf' x y1 y2) (snd_tick p.W p.bl 1 (i + 1) 1 p.W (by decide) w2) ⟨fun _ => by simp only;omega,.inl hlf⟩ ⟨fun _ => by simp only;omega,.inl (by simp only;omega)⟩ rfl rfl (by rw [blkB_len x y2];omega) (by simp) (by omega)
 obtain ⟨b1,b2⟩ := board_takes p.W 4096 st (UInt8.ofNat (i + 1 + 1)) true (p.dat (i + 1)) (i + 1) tr' (p.W - 1) x y2 y3 (by omega) (by omega)
 rw [ofNat_succ,← y4] at b2
 have hne : blkB x ≠ [] := by rw [blkB_cons];simp
 obtain ⟨t1,t2⟩ := a.tick (r1 := [6]) (r2 := []) (by omega) ⟨x1,x2⟩ (by simp only [List.append_nil];rw [blkB_len x y2];omega) (fun _ => by simp only [List.append_nil];exact b1) (by simp only [List.append_nil];rw [if_neg hne];exact b2) (tick_ok_one p.W 4096 st _ true [] _ _ tr' p.W w2 (fun h => by cases h)) (by simp) (by simp) rfl
 rw [hput_two,hput_fit _ _ rfl (by simpa using hR) rfl] at t2
 refine Good.step (by rw [a.host];simp) t1 (hg _ _ ⟨_,_,_,_,_,hd + 1,1,p.W - 1,tr',st,t2,by omega,by omega⟩)
theorem goes_on {p : Par} (ok : p.Ok) (hR : 1 ≤ p.R) : ∀ (m n j N B : Nat) (s : M.Sys),p.bl.length = j + m → 1 ≤ j → B ≤ 300000 + 2000 * j → StA p j N B s → Good (n + 3 + m) N s (FinP p)
 | 0,n,j,N,B,s,h1,h2,h3,h => by
  obtain rfl : j = p.bl.length := by omega
  have := ok.nb
  exact step_eot ok (by omega) h
 | m + 1,n,j,N,B,s,h1,h2,h3,h => by
  have := ok.nb
  exact step_block ok hR (by omega) h2 (by omega) h (fun N' s' h' => goes_on ok hR m n (j + 1) N' (B + 2000) s' (by omega) (by omega) (by omega) h')
structure Aw (N B : Nat) (s : M.Sys) (h : M.Host) (b : M.Board) (d : M.Wire) : Prop where
 host : s.host = h
 board : s.board = b
 down : s.down = d
 cnt : Cnt N s B
theorem Aw.at_ {N B : Nat} {s : M.Sys} {h : M.Host} {b : M.Board} {d : M.Wire} (a : Aw N B s h b d) (hc : Clean d) : At N B s h b := ⟨a.host,a.board,by rw [a.down];exact hc,a.cnt⟩
theorem Aw.tick {N B : Nat} {s : M.Sys} {h h1 : M.Host} {b b1 b2 : M.Board} {d d' : M.Wire} {bs r1 r2 : M.B} (a : Aw N B s h b d) (hB : B ≤ 900000) (hh : HTickOk h ∧ h.tick = h1) (hpass : d.pass h1.out = (bs,d')) (ho : h1.out.length ≤ 1500) (hbo : bs ≠ [] → BoardOk b bs) (hbp : (if bs = [] then (([] : M.B),b) else b.put bs) = (r1,b1)) (htk : TickOk b1 ∧ b1.tick = (r2,b2)) (l1 : r1.length ≤ 300) (l2 : r2.length ≤ 300) (hlost : h1.ring.lost = 0) (hdn : d'.n ≤ d.n + 1500 ∧ d'.marks ≤ d.marks + 1500) (hbl : bs.length ≤ 1500) :
  STickOk N s ∧ Aw (N + (downs s).length) (B + 2000) s.tick (hput (hput { h1 with out := [] } r1) r2) b2 d' := by
 obtain ⟨h0,hb,hc,hn⟩ := a
 subst h0
 subst hb
 subst hc
 obtain ⟨t1,t2,t3,t4,t5⟩ := tick_all hn hB hh hpass ho hbo hbp htk l1 l2 hlost hdn hbl
 exact ⟨t1,t2,t3,t4,t5⟩
theorem hput_swap (h : M.Host) (r : M.B) : hput (hput h []) r = hput h r := rfl
def loadL : M.B := [108,111,97,100,32,99,114,99,32,49,48,48,48]
theorem load_is : M.loadOf 1 4096 = loadL ++ [13] := by decide +kernel
theorem load_line : LoadLine loadL 1 4096 := ⟨⟨by decide +kernel,by decide +kernel,by decide +kernel⟩,by omega,by omega,fun t => by kernel_rfl⟩
theorem loadL_13 : ∀ c,c ∈ loadL → c ≠ 13 := by decide +kernel
theorem puts_end' (W a : Nat) (st : Nat → UInt8) (ln o : M.B) (b : M.Board) (h : (brdS W [] .none a st).does ln = (o,b)) : M.Board.puts (brdS W ln .none a st) [] [13] = (o,b) := by
 rw [M.Board.puts]
 have h1 : (brdS W ln .none a st).put1 13 = (o,b) := by simp [M.Board.put1,h]
 simp [M.Board.isTaking,h1,M.Board.puts]
theorem brd_first (W : Nat) : BoardOk (board0 ⟨3,W⟩) [13] ∧ (board0 ⟨3,W⟩).put [13] = ([13,10,61,62,32],brdS W [] .none 0 fun _ => 0) := by
 refine ⟨?_,by simp [M.Board.put,M.Board.isTaking,M.Board.puts,M.Board.put1,M.prompt,board0]⟩
 unfold BoardOk
 rw [if_neg (by simp [M.Board.isTaking,board0])]
 unfold PutsOk
 rw [if_neg (by simp [M.Board.isTaking,board0])]
 exact ⟨(fun h => by cases h),(by simp [M.Board.put1,board0,M.prompt]),trivial⟩
theorem brd_load (p : Par) (ok : p.Ok) (st : Nat → UInt8) : BoardOk (brdS p.W [] .none 0 st) (M.loadOf 1 4096) ∧ (brdS p.W [] .none 0 st).put (M.loadOf 1 4096) = ([],brdS p.W [] (.one (rcvS p.W 1 false [] [] 0 3 1)) 4096 st) := by
 have hd : (brdS p.W [] .none 0 st).does loadL = ([],brdS p.W [] (.one (rcvS p.W 1 false [] [] 0 3 1)) 4096 st) := by
  rw [load_line.does]
  unfold takerOf M.rcvOf
  simp [ok.fit]
 constructor
 ·unfold BoardOk
  rw [if_neg (by simp [M.Board.isTaking]),load_is]
  refine putsOk_line p.W 0 st loadL [] [] [13] loadL_13 (by decide) (by simp) ?_
  rw [List.nil_append]
  exact putsOk_end p.W 0 st loadL [] _ (.inl ⟨1,4096,load_line⟩) hd (by simp)
 ·have h0 : ∀ b,(brdS p.W [] .none 0 st).put b = M.Board.puts (brdS p.W [] .none 0 st) [] b := fun b => by simp [M.Board.put,M.Board.isTaking]
  rw [h0,load_is,puts_line p.W 0 st loadL [] [] [13] loadL_13 (by decide),List.nil_append]
  exact puts_end' p.W 0 st loadL [] _ hd
theorem load_len : (M.loadOf 1 4096).length = 14 := by decide +kernel
def StB (p : Par) (d : M.Wire) (N B : Nat) (s : M.Sys) : Prop :=
 ∃ pw wt lf hd st,Aw N B s (p.hst 1 0 pw 7 1 (.one (sndS p.W p.bl 0 0 1 (p.W - 1))) wt lf [67] hd [] 0) (brdS p.W [] (.one (rcvS p.W 1 false [] [] 0 2 p.W)) 4096 st) d ∧ hd ≤ B
theorem starts {p : Par} (ok : p.Ok) (hR : 1 ≤ p.R) {acts : List M.WAct} (hA : ∀ m,m < 15 → acts.getD m act0 = act0) (J : Nat) (hJ : J ≤ 1000) {n : Nat} {s : M.Sys} {wt : M.Watch} {lf : Nat} (h : Aw 0 0 s (p.hst 0 0 (M.watchOf [M.prompt]) 8 0 .none wt lf (List.replicate J 0) 0 [13] 0) (board0 ⟨3,p.W⟩) ⟨acts,0,0⟩) (hg : ∀ N s,StB p ⟨acts,15,15⟩ N 4000 s → Good n N s (FinP p)) : Good (n + 2) 0 s (FinP p) := by
 have hz : (62 : UInt8) ∉ List.replicate J (0 : UInt8) := by intro hm;rw [List.mem_replicate] at hm;exact absurd hm.2 (by decide)
 obtain ⟨pw,w1,w2,x1,x2⟩ := ht_hears p (List.replicate J 0) hz (by simpa using hJ) wt lf
 rw [List.length_replicate] at x2
 obtain ⟨b1,b2⟩ := brd_first p.W
 have hp1 : (⟨acts,0,0⟩ : M.Wire).pass [13] = ([13],⟨acts,1,1⟩) := pass_clean [13] ⟨acts,0,0⟩ (fun m h1 h2 => hA m (by simp at h2;omega))
 obtain ⟨t1,t2⟩ := h.tick (r1 := [13,10,61,62,32]) (r2 := []) (b1 := brdS p.W [] .none 0 fun _ => 0) (b2 := brdS p.W [] .none 0 fun _ => 0) (by omega) ⟨x1,x2⟩ hp1 (by simp) (fun _ => b1) (by rw [if_neg (by simp)];exact b2) ⟨trivial,rfl⟩ (by simp) (by simp) rfl (by simp) (by simp)
 rw [hput_two] at t2
 refine Good.step (by rw [h.host];simp) t1 ?_
 by_cases h5 : 5 ≤ p.R
 ·rw [hput_fit _ _ rfl (by simpa using h5) rfl] at t2
  obtain ⟨pw',y1,y2⟩ := ht_wakes p ok (List.replicate J 0) pw wt lf J w1 w2 (by omega)
  obtain ⟨c1,c2⟩ := brd_load p ok fun _ => 0
  have hne : M.loadOf 1 4096 ≠ [] := by rw [load_is];simp
  have hp2 : (⟨acts,1,1⟩ : M.Wire).pass (M.loadOf 1 4096) = (M.loadOf 1 4096,⟨acts,15,15⟩) := by
   rw [pass_clean (M.loadOf 1 4096) ⟨acts,1,1⟩ (fun m h1 h2 => hA m (by rw [load_len] at h2;simp at h2;omega)),load_len]
  have hf := rcv_first p.W 2
  obtain ⟨u1,u2⟩ := t2.tick (r1 := []) (r2 := [67]) (b1 := brdS p.W [] (.one (rcvS p.W 1 false [] [] 0 3 1)) 4096 fun _ => 0) (b2 := brdS p.W [] (.one (rcvS p.W 1 false [] [] 0 2 p.W)) 4096 fun _ => 0) (by omega) ⟨y1,y2⟩ hp2 (by simp only;rw [load_len];omega) (fun _ => c1) (by rw [if_neg hne];exact c2) ⟨⟨(fun _ => by simp),by rw [hf];simp,by rw [hf];exact loaded_vac _ rfl⟩,brd_tick p.W 4096 _ _ _ _ hf rfl⟩ (by simp) (by simp) rfl (by simp) (by rw [load_len];omega)
  rw [hput_swap,hput_fit _ _ rfl (by simpa using hR) rfl] at u2
  exact Good.step (by rw [t2.host];simp) u1 (hg _ _ ⟨pw',wt,lf,J + 5,_,u2,by omega⟩)
 ·have hl := lost_good (p := p) (n := n + 1) (N := 0 + (downs s).length) (B := 2000) (s := s.tick) (h := { (p.hst 0 0 pw 7 0 .none wt lf [] J [13] 0) with out := [] }) (r := [13,10,61,62,32]) (b := brdS p.W [] .none 0 fun _ => 0)
  obtain ⟨q1,q2,q3,q4⟩ := t2
  obtain ⟨e1,e2,e3⟩ := hput_over { (p.hst 0 0 pw 7 0 .none wt lf [] J [13] 0) with out := [] } [13,10,61,62,32] rfl (by simp;omega) rfl (by simp)
  have h7 : s.tick.host.phase = 7 := by rw [q1];exact e1
  exact Good.over h7 ⟨h7,.inl ⟨by omega,by rw [q1];exact e2,by rw [q1];exact e3⟩⟩
theorem step_first {p : Par} (ok : p.Ok) (hR : 1 ≤ p.R) {n N : Nat} {s : M.Sys} {d : M.Wire} (hd : Clean d) (h : StB p d N 4000 s) (hg : ∀ N' s',StA p 1 N' 6000 s' → Good n N' s' (FinP p)) : Good (n + 1) N s (FinP p) := by
 obtain ⟨pw,wt,lf,hd',st,a,hhd⟩ := h
 have a := a.at_ hd
 have w2 := ok.w2
 obtain ⟨nb1,nb8⟩ := ok.nb
 obtain ⟨x,y1,y2,y3,y4⟩ := p.blk 0 (by omega)
 obtain ⟨x1,x2⟩ := ht_gives p 67 _ _ _ _ _ pw wt 7 1 lf hd' (snd_67 p.W p.bl (p.W - 1) x y1 y2) (snd_tick p.W p.bl 1 0 1 p.W (by decide) w2) ⟨fun h => by simp at h,.inl (by simp only;omega)⟩ ⟨fun _ => by simp only;omega,.inl (by simp only;omega)⟩ rfl rfl (by rw [blkB_len x y2];omega) (by simp) (by omega)
 obtain ⟨b1,b2⟩ := board_takes p.W 4096 st 1 false [] 0 2 p.W x y2 y3 (by simp) (by omega)
 have e0 : p.dat 0 = [] := rfl
 rw [e0] at y4
 rw [← y4] at b2
 have hne : blkB x ≠ [] := by rw [blkB_cons];simp
 obtain ⟨t1,t2⟩ := a.tick (r1 := [6]) (r2 := []) (by omega) ⟨x1,x2⟩ (by simp only [List.append_nil];rw [blkB_len x y2];omega) (fun _ => by simp only [List.append_nil];exact b1) (by simp only [List.append_nil];rw [if_neg hne];exact b2) (tick_ok_one p.W 4096 st _ true [] _ _ 2 p.W w2 (fun h => by cases h)) (by simp) (by simp) rfl
 rw [hput_two,hput_fit _ _ rfl (by simpa using hR) rfl] at t2
 exact Good.step (by rw [a.host];simp) t1 (hg _ _ ⟨_,_,_,_,_,hd' + 1,1,p.W - 1,2,st,t2,by omega,by omega⟩)
theorem sys0_aw (p : Par) (acts : List M.WAct) : Aw 0 0 (sys0 ⟨3,p.W⟩ p.T p.R [p.ent] [p.im] acts) (p.hst 0 0 (M.watchOf [M.prompt]) 8 0 .none (M.watchOf []) 0 [] 0 [13] 0) (board0 ⟨3,p.W⟩) ⟨acts,0,0⟩ :=
 ⟨rfl,rfl,rfl,⟨Nat.le_refl _,Nat.le_refl _,Nat.le_refl _,rfl,Nat.le_refl _,Nat.le_refl _,Nat.le_refl _⟩⟩
theorem room_run {p : Par} (ok : p.Ok) (hR : 1 ≤ p.R) (J : Nat) (hJ : J ≤ p.R) (hJ2 : J ≤ 1000) : Good 80 0 { sys0 ⟨3,p.W⟩ p.T p.R [p.ent] [p.im] [] with host := (sys0 ⟨3,p.W⟩ p.T p.R [p.ent] [p.im] []).host.put (List.replicate J 0) } (FinP p) := by
 obtain ⟨nb1,nb8⟩ := ok.nb
 have h0 := sys0_aw p []
 have hput : (p.hst 0 0 (M.watchOf [M.prompt]) 8 0 .none (M.watchOf []) 0 [] 0 [13] 0).put (List.replicate J 0) = p.hst 0 0 (M.watchOf [M.prompt]) 8 0 .none (M.watchOf []) 0 (List.replicate J 0) 0 [13] 0 := by
  unfold M.Host.put M.Ring.put
  have e : min J p.R = J := by omega
  simp [e]
 have h1 : Aw 0 0 ({ sys0 ⟨3,p.W⟩ p.T p.R [p.ent] [p.im] [] with host := (sys0 ⟨3,p.W⟩ p.T p.R [p.ent] [p.im] []).host.put (List.replicate J 0) } : M.Sys) (p.hst 0 0 (M.watchOf [M.prompt]) 8 0 .none (M.watchOf []) 0 (List.replicate J 0) 0 [13] 0) (board0 ⟨3,p.W⟩) ⟨[],0,0⟩ :=
  ⟨by rw [h0.host];exact hput,h0.board,h0.down,⟨h0.cnt.ticks,h0.cnt.dn,h0.cnt.dm,h0.cnt.ua,h0.cnt.un,h0.cnt.um,h0.cnt.num⟩⟩
 have e80 : 80 = ((75 - p.bl.length) + 3 + (p.bl.length - 1) + 1) + 2 := by omega
 rw [e80]
 exact starts ok hR (fun m _ => by simp) J hJ2 h1 (fun N s hs => step_first ok hR (clean_nil _ _) hs (fun N' s' h' => goes_on ok hR (p.bl.length - 1) (75 - p.bl.length) 1 N' 6000 s' (by omega) (Nat.le_refl _) (by omega) h'))
def lostActs (k : Nat) : List M.WAct := List.replicate (15 + k) act0 ++ List.replicate (133 - k) actD
theorem lost_low (k m : Nat) (h : m < 15 + k) : (lostActs k).getD m act0 = act0 := by
 unfold lostActs
 rw [List.getD,List.getElem?_append_left (by simpa using h),List.getElem?_replicate,if_pos h]
 rfl
theorem lost_mid (k m : Nat) (hk : k ≤ 133) (h1 : 15 + k ≤ m) (h2 : m < 148) : (lostActs k).getD m act0 = actD := by
 unfold lostActs
 rw [List.getD,List.getElem?_append_right (by simpa using h1),List.length_replicate,List.getElem?_replicate,if_pos (by omega)]
 rfl
theorem lost_high (k m : Nat) (hk : k ≤ 133) (h : 148 ≤ m) : (lostActs k).getD m act0 = act0 := by
 unfold lostActs
 rw [List.getD,List.getElem?_eq_none (by simp;omega)]
 rfl
def Part (b : M.B) : Prop := b = [] ∨ b = [1] ∨ b = [1,1]
def StI (p : Par) (b : M.B) (m N B : Nat) (s : M.Sys) : Prop :=
 ∃ pw wt lf hd st,At N B s (p.hst 1 0 pw 7 1 (.one (sndS p.W p.bl 1 0 1 m)) wt lf [] hd [] 0) (brdS p.W [] (.one (rcvS p.W 1 false b [] 0 2 m)) 4096 st) ∧ hd ≤ B
theorem part_put (W : Nat) (b : M.B) (tr lf : Nat) (hb : b = [1] ∨ b = [1,1]) : RPutOk (rcvS W 1 false [] [] 0 tr lf) b ∧ (rcvS W 1 false [] [] 0 tr lf).put b = ([],rcvS W 1 false b [] 0 tr W) := by
 refine ⟨?_,rput_need _ b hb rfl rfl rfl⟩
 rcases hb with rfl | rfl
 ·exact ⟨rfl,by simp,by simp,by simp,by simp,.inr ⟨.inl rfl,.inl (by simp)⟩⟩
 ·exact ⟨rfl,by simp,by simp,by simp,by simp,.inr ⟨.inl rfl,.inl (by simp)⟩⟩
theorem part_bad (W : Nat) (b : M.B) (tr lf : Nat) (x : M.Blk) (hx : x.data.length = 128) (h1 : x.number = 1) (hb : b = [1] ∨ b = [1,1]) : RPutOk (rcvS W 1 false b [] 0 tr lf) (blkB x) ∧ (rcvS W 1 false b [] 0 tr lf).put (blkB x) = ([21],rcvS W 1 false [] [] 0 tr W) := by
 have hl := blkB_len x hx
 refine ⟨⟨rfl,by rw [blkB_cons];simp,?_,by simp,by simp,.inr ⟨.inl ?_,.inr (.inl ⟨?_,?_⟩)⟩⟩,rput_bad _ x b hb h1 rfl rfl rfl⟩
 ·rw [hl];rcases hb with rfl | rfl <;> simp
 ·rcases hb with rfl | rfl <;> rfl
 ·rw [List.length_append,hl];omega
 ·rw [blkB_cons,h1]
  rcases hb with rfl | rfl
  ·show (1 : UInt8) ≠ 255 - 1;decide
  ·show (1 : UInt8) ≠ 255 - 1;decide
theorem step_lost {p : Par} (ok : p.Ok) (k : Nat) (hk : k ≤ 2) {n N : Nat} {s : M.Sys} (h : StB p ⟨lostActs k,15,15⟩ N 4000 s) (hg : ∀ b N' s',Part b → StI p b (p.W - 1) N' 6000 s' → Good n N' s' (FinP p)) : Good (n + 1) N s (FinP p) := by
 obtain ⟨pw,wt,lf,hd',st,a,hhd⟩ := h
 have w2 := ok.w2
 obtain ⟨nb1,nb8⟩ := ok.nb
 obtain ⟨x,y1,y2,y3,y4⟩ := p.blk 0 (by omega)
 have hl := blkB_len x y2
 obtain ⟨x1,x2⟩ := ht_gives p 67 _ _ _ _ _ pw wt 7 1 lf hd' (snd_67 p.W p.bl (p.W - 1) x y1 y2) (snd_tick p.W p.bl 1 0 1 p.W (by decide) w2) ⟨fun h => by simp at h,.inl (by simp only;omega)⟩ ⟨fun _ => by simp only;omega,.inl (by simp only;omega)⟩ rfl rfl (by rw [hl];omega) (by simp) (by omega)
 rw [List.append_nil] at x2
 have hpass : (⟨lostActs k,15,15⟩ : M.Wire).pass (blkB x) = ((blkB x).take k,⟨lostActs k,148,15 + k⟩) := by
  have ht : ((blkB x).take k).length = k := by rw [List.length_take];omega
  have hdl : ((blkB x).drop k).length = 133 - k := by rw [List.length_drop,hl]
  have c1 := pass_clean ((blkB x).take k) ⟨lostActs k,15,15⟩ (fun m h1 h2 => lost_low k m (by rw [ht] at h2;simp at h2;omega))
  have c2 := pass_drop ((blkB x).drop k) ⟨lostActs k,15 + k,15 + k⟩ (fun m h1 h2 => lost_mid k m (by omega) (by simpa using h1) (by rw [hdl] at h2;simp at h2;omega))
  rw [ht] at c1
  rw [hdl] at c2
  conv => lhs;rw [← List.take_append_drop k (blkB x)]
  rw [pass_append,c1]
  simp only
  rw [c2]
  simp only [List.append_nil,Prod.mk.injEq,true_and,M.Wire.mk.injEq,and_true]
  omega
 have hclean : Clean ⟨lostActs k,148,15 + k⟩ := fun m hm => lost_high k m (by omega) hm
 have hb3 : (k = 0 ∧ (blkB x).take k = []) ∨ ((blkB x).take k = [1] ∨ (blkB x).take k = [1,1]) := by
  have : k = 0 ∨ k = 1 ∨ k = 2 := by omega
  rw [blkB_cons,y3]
  rcases this with rfl | rfl | rfl
  ·exact .inl ⟨rfl,rfl⟩
  ·exact .inr (.inl rfl)
  ·exact .inr (.inr rfl)
 rcases hb3 with ⟨rfl,hb⟩ | hb
 ·rw [hb] at hpass
  obtain ⟨t1,t2⟩ := a.tick (r1 := []) (r2 := []) (b1 := brdS p.W [] (.one (rcvS p.W 1 false [] [] 0 2 p.W)) 4096 st) (by omega) ⟨x1,x2⟩ hpass (by simp only;rw [hl];omega) (fun h => absurd rfl h) (by rw [if_pos rfl]) (tick_ok_one p.W 4096 st 1 false [] [] 0 2 p.W w2 (fun _ => by decide)) (by simp) (by simp) rfl (by simp) (by simp)
  rw [hput_two,hput_nil] at t2
  exact Good.step (by rw [a.host];simp) t1 (hg [] _ _ (.inl rfl) ⟨pw,wt,lf,hd' + 1,st,t2.at_ hclean,by omega⟩)
 ·obtain ⟨r1,r2⟩ := part_put p.W _ 2 p.W hb
  have hne : (blkB x).take k ≠ [] := by rcases hb with hb | hb <;> rw [hb] <;> simp
  have hbl : ((blkB x).take k).length ≤ 2 := by rcases hb with hb | hb <;> rw [hb] <;> simp
  obtain ⟨t1,t2⟩ := a.tick (r1 := []) (r2 := []) (b1 := brdS p.W [] (.one (rcvS p.W 1 false ((blkB x).take k) [] 0 2 p.W)) 4096 st) (by omega) ⟨x1,x2⟩ hpass (by simp only;rw [hl];omega) (fun _ => board_ok_one p.W 4096 st _ _ _ _ r1 r2 (by simp) (loaded_vac _ rfl)) (by rw [if_neg hne];exact brd_put p.W 4096 st _ _ _ _ r2 rfl) (tick_ok_one p.W 4096 st 1 false _ [] 0 2 p.W w2 (fun _ => by decide)) (by simp) (by simp) rfl (by simp;omega) (by omega)
  rw [hput_two,hput_nil] at t2
  exact Good.step (by rw [a.host];simp) t1 (hg _ _ _ (.inr hb) ⟨pw,wt,lf,hd' + 1,st,t2.at_ hclean,by omega⟩)
theorem step_idle {p : Par} (ok : p.Ok) {b : M.B} {m n N B : Nat} {s : M.Sys} (hB : B ≤ 100000) (h : StI p b (m + 2) N B s) (hg : ∀ N' s',StI p b (m + 1) N' (B + 2000) s' → Good n N' s' (FinP p)) : Good (n + 1) N s (FinP p) := by
 obtain ⟨pw,wt,lf,hd',st,a,hhd⟩ := h
 obtain ⟨nb1,nb8⟩ := ok.nb
 obtain ⟨x1,x2⟩ := ht_idle p _ _ _ pw wt 7 1 lf hd' (snd_tick p.W p.bl 1 0 1 (m + 2) (by decide) (by omega)) ⟨fun _ => by simp only;omega,.inl (by simp only;omega)⟩ rfl (by simp)
 obtain ⟨t1,t2⟩ := a.tick (r1 := []) (r2 := []) (b1 := brdS p.W [] (.one (rcvS p.W 1 false b [] 0 2 (m + 2))) 4096 st) (by omega) ⟨x1,x2⟩ (by simp) (fun h => absurd rfl h) (by rw [if_pos rfl]) (tick_ok_one p.W 4096 st 1 false b [] 0 2 (m + 2) (by omega) (fun _ => by decide)) (by simp) (by simp) rfl
 rw [hput_two,hput_nil] at t2
 exact Good.step (by rw [a.host];simp) t1 (hg _ _ ⟨pw,wt,lf,hd',st,t2,by omega⟩)
theorem step_again {p : Par} (ok : p.Ok) (hR : 1 ≤ p.R) {b : M.B} (hb : Part b) {n N B : Nat} {s : M.Sys} (hB : B ≤ 100000) (h : StI p b 1 N B s) (hg : ∀ N' B' s',B' ≤ B + 4000 → StA p 1 N' B' s' → Good (n + 1) N' s' (FinP p) ∧ Good n N' s' (FinP p)) : Good (n + 2) N s (FinP p) := by
 obtain ⟨pw,wt,lf,hd',st,a,hhd⟩ := h
 have w2 := ok.w2
 obtain ⟨nb1,nb8⟩ := ok.nb
 obtain ⟨x,y1,y2,y3,y4⟩ := p.blk 0 (by omega)
 have hl := blkB_len x y2
 have hne : blkB x ≠ [] := by rw [blkB_cons];simp
 have e0 : p.dat 0 = [] := rfl
 rw [e0] at y4
 obtain ⟨x1,x2⟩ := ht_idle p _ _ _ pw wt 7 1 lf hd' (snd_late p.W p.bl 0 1 x y1 y2 (by decide)) ⟨fun _ => by simp only;omega,.inl (by simp only;omega)⟩ rfl (by rw [hl];omega)
 rcases hb with rfl | hb
 ·obtain ⟨b1,b2⟩ := board_takes p.W 4096 st 1 false [] 0 2 1 x y2 y3 (by simp) (by omega)
  rw [← y4] at b2
  obtain ⟨t1,t2⟩ := a.tick (r1 := [6]) (r2 := []) (by omega) ⟨x1,x2⟩ (by simp only;rw [hl];omega) (fun _ => b1) (by simp only;rw [if_neg hne];exact b2) (tick_ok_one p.W 4096 st _ true [] _ _ 2 p.W w2 (fun h => by cases h)) (by simp) (by simp) rfl
  rw [hput_two,hput_fit _ _ rfl (by simpa using hR) rfl] at t2
  exact Good.step (by rw [a.host];simp) t1 (hg _ _ _ (by omega) ⟨_,_,_,_,_,hd',2,p.W,2,st,t2,by omega,by omega⟩).1
 ·obtain ⟨r1,r2⟩ := part_bad p.W b 2 1 x y2 y3 hb
  obtain ⟨t1,t2⟩ := a.tick (r1 := [21]) (r2 := []) (b1 := brdS p.W [] (.one (rcvS p.W 1 false [] [] 0 2 p.W)) 4096 st) (by omega) ⟨x1,x2⟩ (by simp only;rw [hl];omega) (fun _ => board_ok_one p.W 4096 st _ _ _ _ r1 r2 (by simp) (loaded_vac _ rfl)) (by simp only;rw [if_neg hne];exact brd_put p.W 4096 st _ _ _ _ r2 rfl) (tick_ok_one p.W 4096 st 1 false [] [] 0 2 p.W w2 (fun _ => by decide)) (by simp) (by simp) rfl
  rw [hput_two,hput_fit _ _ rfl (by simpa using hR) rfl] at t2
  refine Good.step (by rw [a.host];simp) t1 ?_
  obtain ⟨z1,z2⟩ := ht_gives p 21 _ _ _ _ _ pw wt 7 1 lf hd' (snd_21 p.W p.bl 0 2 p.W x y1 y2 (by decide)) (snd_tick p.W p.bl 1 0 3 p.W (by decide) w2) ⟨fun _ => by simp only;omega,.inl (by simp only;omega)⟩ ⟨fun _ => by simp only;omega,.inl (by simp only;omega)⟩ rfl rfl (by rw [hl];omega) (by simp) (by omega)
  rw [List.append_nil] at z2
  obtain ⟨b1,b2⟩ := board_takes p.W 4096 st 1 false [] 0 2 (p.W - 1) x y2 y3 (by simp) (by omega)
  rw [← y4] at b2
  obtain ⟨u1,u2⟩ := t2.tick (r1 := [6]) (r2 := []) (by omega) ⟨z1,z2⟩ (by simp only;rw [hl];omega) (fun _ => b1) (by simp only;rw [if_neg hne];exact b2) (tick_ok_one p.W 4096 st _ true [] _ _ 2 p.W w2 (fun h => by cases h)) (by simp) (by simp) rfl
  rw [hput_two,hput_fit _ _ rfl (by simpa using hR) rfl] at u2
  exact Good.step (by rw [t2.host];simp) u1 (hg _ _ _ (by omega) ⟨_,_,_,_,_,hd' + 1,3,p.W - 1,2,st,u2,by omega,by omega⟩).2
theorem waits_on {p : Par} (ok : p.Ok) (hR : 1 ≤ p.R) {b : M.B} (hb : Part b) : ∀ (m n N B : Nat) (s : M.Sys),B + 2000 * m ≤ 90000 → p.bl.length ≤ n + 1 → StI p b (m + 1) N B s → Good (n + 5 + m) N s (FinP p)
 | 0,n,N,B,s,hB,hn,h => by
  obtain ⟨nb1,nb8⟩ := ok.nb
  refine step_again (n := n + 3) ok hR hb (by omega) h (fun N' B' s' hB' h' => ⟨?_,?_⟩)
  ·have e : n + 3 + 1 = (n + 1 - (p.bl.length - 1)) + 3 + (p.bl.length - 1) := by omega
   rw [e]
   exact goes_on ok hR _ _ 1 N' B' s' (by omega) (Nat.le_refl _) (by omega) h'
  ·have e : n + 3 = (n - (p.bl.length - 1)) + 3 + (p.bl.length - 1) := by omega
   rw [e]
   exact goes_on ok hR _ _ 1 N' B' s' (by omega) (Nat.le_refl _) (by omega) h'
 | m + 1,n,N,B,s,hB,hn,h => step_idle ok (by omega) h (fun N' s' h' => waits_on ok hR hb m n N' (B + 2000) s' (by omega) hn h')
theorem lost_run {p : Par} (ok : p.Ok) (hR : 1 ≤ p.R) (k : Nat) (hk : k ≤ 2) : Good 90 0 (sys0 ⟨3,p.W⟩ p.T p.R [p.ent] [p.im] (lostActs k)) (FinP p) := by
 obtain ⟨nb1,nb8⟩ := ok.nb
 have w2 := ok.w2
 have w6 := ok.w6
 have e90 : 90 = ((84 - p.W) + 5 + (p.W - 2) + 1) + 2 := by omega
 rw [e90]
 refine starts ok hR (fun m hm => lost_low k m (by omega)) 0 (by omega) (sys0_aw p (lostActs k)) (fun N s hs => step_lost ok k hk hs (fun b N' s' hb h' => ?_))
 have e1 : p.W - 1 = (p.W - 2) + 1 := by omega
 rw [e1] at h'
 exact waits_on ok hR hb (p.W - 2) (84 - p.W) N' 6000 s' (by omega) (by omega) h'
def oneIm (b : M.B) (k : Nat) : M.B := (M.dataOf b).take k
def oneRE (b : M.B) (k : Nat) : RE := ⟨⟨#[102]⟩,4096,k,M.printOf (oneIm b k),1⟩
theorem oneIm_len (b : M.B) (k : Nat) (h : k ≤ 1024) : (oneIm b k).length = k := by
 unfold oneIm
 rw [List.length_take]
 have : (M.dataOf b).length = 1024 := by simp [M.dataOf]
 omega
theorem dataArr_cell (b : M.B) (j : Nat) (hj : j < 1024) : (dataArr b 1024)[j]? = some (byteV ((M.dataOf b).getD j 0)) := by
 unfold dataArr M.dataOf
 simp [hj,List.getD,dataAt]
theorem one_bytes {w : World} {D : Nat} (b : M.B) (k : Nat) (hk : k ≤ 1024) (h : w.heap[D]? = some (.cells (dataArr b 1024) 5 (0,0))) : Bytes w (some ⟨D,0,none⟩) (oneIm b k) := by
 refine ⟨(fun e => by cases e),fun ad e i hi => ?_⟩
 cases e
 rw [oneIm_len b k hk] at hi
 rw [Addr.add_lit,Nat.zero_add]
 have h1 : (oneIm b k).getD i 0 = (M.dataOf b).getD i 0 := by
  unfold oneIm
  rw [List.getD,List.getD,List.getElem?_take,if_pos hi]
 rw [h1]
 exact cell_at h (dataArr_cell b i (by omega))
def OnePost (b : M.B) (k : Nat) (w : World) (e : Ending) (w' : World) : Prop :=
 ∃ E I D,e = .returned (.tuple #[.slice (some ⟨E,0,none⟩) 1 1,.slice (some ⟨I,0,none⟩) 1 1]) ∧ w.heap.size ≤ D ∧ w'.heap[E]? = some (.cells #[.string ⟨#[102]⟩,.int .i64 4096,.int .i64 k,.int .u32 (M.printOf (oneIm b k)),.int .i64 1] 39 (0,0)) ∧
  w'.heap[I]? = some (.cells #[.slice (some ⟨D,0,none⟩) k 1024] 22 (0,0)) ∧ w'.heap[D]? = some (.cells (dataArr b 1024) 5 (0,0)) ∧ Only [] w w'
theorem one_is (a : Option Addr) (n c : Nat) (b : M.B) (sz : Nat) (w : World) (hb : Bytes w a b) (hba : b = [] ∨ ∀ ad,a = some ad → ad.block < w.heap.size) (hn : b.length = n) (hN : n ≤ 9223372036854775807) (hs : sz < 65536) :
  Calls Tryz.prog 7 #[.slice a n c,.int .u16 sz,.int .i64 1] w (OnePost b (1 + sz % 1000) w) := by
 obtain ⟨k,hk⟩ : ∃ k,1 + sz % 1000 = k := ⟨_,rfl⟩
 have hk1 : k ≤ 1000 := by omega
 have hk0 : 1 ≤ k := by omega
 have hmod : (sz : Int).tmod 1000 = (((k - 1 : Nat) : Nat) : Int) := by rw [Int.tmod_eq_emod_of_nonneg (by omega)];omega
 have hadd : (1 : Int) + ((k - 1 : Nat) : Int) = (k : Int) := by omega
 have HD := LH (data_any a b n c w hb hba hn hN)
 rw [hk]
 clear hb hba hn hN
 go_enter Tryz.func7,Tryz.ntmps7
 go_upto_region 3 with (go_at_call 20;go_loud (refine HD.out.mono ?_;rintro e w1 ⟨rfl,h1,o1⟩;have H1 := LH (AI h1 o1);clear h1 o1))
 obtain ⟨D,hD⟩ : ∃ D,D = w.heap.size := ⟨_,rfl⟩
 rw [← hD]
 have hw1 : D < w1.heap.size := by rw [hD];exact heap_lt H1.out.1
 have HP := LH (print_any (some ⟨D,0,none⟩) (oneIm b k) k 1024 w1 (one_bytes b k (by omega) (by rw [hD];exact H1.out.1)) (.inr (fun ad e => by cases e;exact hw1)) (oneIm_len b k (by omega)) (by omega))
 obtain ⟨pr,hpr⟩ : ∃ pr : Int,pr = (M.printOf (oneIm b k) : Int) := ⟨_,rfl⟩
 rw [← hpr] at HP
 have HDD := LH (AI hD hpr)
 clear hmod hadd hD hpr
 go_wp2_with (go_at_call 18;go_loud (refine HP.out.mono ?_;rintro e w2 ⟨rfl,o2⟩;have H2 := LH o2;clear o2))
 go_ret2
 obtain ⟨hD,hpr⟩ := HDD.out
 have o12 : Only [] w w2 := H1.out.2.trans H2.out
 obtain ⟨E1,hE1⟩ : ∃ o,o = Obj.cells #[.string ⟨#[102]⟩,.int .i64 4096,.int .i64 k,.int .u32 pr,.int .i64 1] 39 := ⟨_,rfl⟩
 obtain ⟨I1,hI1⟩ : ∃ o,o = Obj.cells #[.slice (some ⟨D,0,none⟩) k 1024] 22 := ⟨_,rfl⟩
 rw [← hE1,← hI1]
 have oA : Only [] w2 ((w2.alloc E1).alloc I1) := ((Only.refl [] w2).alloc _).alloc _
 refine ⟨w2.heap.size,w2.heap.size + 1,D,rfl,by omega,?_,?_,?_,o12.trans oA⟩
 ·rw [← hpr]
  have h := ((Only.refl [] (w2.alloc E1)).alloc I1).heap (b := w2.heap.size) (by rw [hE1];exact heap_alloc_new w2 _) (by simp)
  exact h
 ·have h := heap_alloc_new (w2.alloc E1) I1
  rw [hI1] at h ⊢
  simpa using h
 ·refine oA.heap (H2.out.heap ?_ (by simp)) (by simp)
  rw [hD]
  exact H1.out.1
def oneP (W T R : Nat) (b : M.B) (k : Nat) : Par := ⟨W,T,R,[102],oneIm b k⟩
theorem oneP_ok (W T R : Nat) (b : M.B) (k : Nat) (h1 : 1 ≤ k) (h2 : k ≤ 1000) (w2 : 2 ≤ W) (w6 : W ≤ 6) : (oneP W T R b k).Ok :=
 ⟨w2,w6,by show 0 < (oneIm b k).length;rw [oneIm_len b k (by omega)];exact h1,by show (oneIm b k).length ≤ 1000;rw [oneIm_len b k (by omega)];exact h2⟩
theorem oneP_ent (W T R : Nat) (b : M.B) (k : Nat) (h2 : k ≤ 1000) : [oneRE b k].map RE.toM = [(oneP W T R b k).ent] := by
 have hl := oneIm_len b k (by omega)
 simp [oneRE,RE.toM,oneP,Par.ent,hl]
theorem one_esRaw {w : World} {E : Nat} {b : M.B} {k : Nat} (h : w.heap[E]? = some (.cells #[.string ⟨#[102]⟩,.int .i64 4096,.int .i64 k,.int .u32 (M.printOf (oneIm b k)),.int .i64 1] 39 (0,0))) : EsRaw w (some ⟨E,0,none⟩) [oneRE b k] := by
 refine ⟨(fun e => by cases e),fun ad e j u hj => ?_⟩
 cases e
 rw [Addr.add_lit,Nat.zero_add]
 refine cell_at h ?_
 have hjl := (List.getElem?_eq_some_iff.1 hj).1
 simp only [esCells_length,List.length_cons,List.length_nil] at hjl
 have : j = 0 ∨ j = 1 ∨ j = 2 ∨ j = 3 ∨ j = 4 := by omega
 rcases this with rfl | rfl | rfl | rfl | rfl <;> simpa [esCells,oneRE] using hj
theorem one_imRaw {w : World} {I D : Nat} {b : M.B} {k : Nat} (hk : k ≤ 1000) (h : w.heap[I]? = some (.cells #[.slice (some ⟨D,0,none⟩) k 1024] 22 (0,0))) (hd : w.heap[D]? = some (.cells (dataArr b 1024) 5 (0,0))) : ImRaw w [I,D] (some ⟨I,0,none⟩) [oneIm b k] := by
 refine ⟨(fun e => by cases e),fun ad e j im hj => ?_,fun ad e _ => by cases e;simp⟩
 cases e
 have hjl := (List.getElem?_eq_some_iff.1 hj).1
 simp only [List.length_cons,List.length_nil] at hjl
 obtain rfl : j = 0 := by omega
 simp only [List.getElem?_cons_zero,Option.some.injEq] at hj
 subst hj
 have hl := oneIm_len b k (by omega)
 refine ⟨.slice (some ⟨D,0,none⟩) k 1024,by rw [Addr.add_lit];exact cell_at h (i := 0) rfl,⟨some ⟨D,0,none⟩,1024,by rw [hl],one_bytes b k (by omega) hd,by omega,by unfold maxLen;omega,(fun e => by cases e),.inr (fun x e => by cases e;simp)⟩⟩
theorem one_right (b : M.B) (k : Nat) (h1 : 1 ≤ k) (h2 : k ≤ 1000) : rightE [oneRE b k] [oneIm b k] = 0 := by
 have hl := oneIm_len b k (by omega)
 have hn : nameOk (⟨#[102]⟩ : ByteArray) = true := by decide +kernel
 have hr : chkRange (oneRE b k) = false := by
  unfold chkRange oneRE RE.room roomE
  simp only
  rw [if_neg (by omega)]
  simp only [decide_eq_false_iff_not]
  omega
 have hc : chkAt [oneRE b k] 0 = 0 := by
  unfold chkAt chk1
  simp [hr,show nameOk (oneRE b k).name = true from hn]
 have he : checkE [oneRE b k] = 0 := by
  unfold checkE
  rw [if_neg (by simp)]
  have : (List.range [oneRE b k].length).find? (fun j => chkAt [oneRE b k] j != 0) = none := by
   rw [List.find?_eq_none]
   intro j hj
   have : j = 0 := by simpa using hj
   subst this
   simp [hc]
  rw [this]
 refine rightE_ok _ _ he rfl (fun j e im h1 h2 => ?_)
 have hjl := (List.getElem?_eq_some_iff.1 h1).1
 simp only [List.length_cons,List.length_nil] at hjl
 obtain rfl : j = 0 := by omega
 simp only [List.getElem?_cons_zero,Option.some.injEq] at h1 h2
 subst h1 h2
 simp [fitsE,oneRE,hl]
def OneOf (c : M.Cfg) (tries room : Nat) (e1 : List M.Entry) (im : M.B) (down : List M.WAct) (w : World) (e : Ending) (w' : World) : Prop :=
 ∃ W H T D U f,e = .returned (.pointer (some ⟨W,0,none⟩)) ∧ Only [] w w' ∧ SysAt w' W H T D U f 0 (sys0 c tries room e1 [im] down) ∧ ∀ b,b ∈ allF f → w.heap.size ≤ b
theorem one_of (c : M.Cfg) (tries room : Nat) (b : M.B) (k E I D : Nat) (da : Option Addr) (dn dc : Nat) (down : List M.WAct) (w : World) (hc : CfgOk c) (h1 : 1 ≤ tries) (h2 : tries ≤ 9) (h3 : 1 ≤ room) (h4 : room ≤ 4096) (k1 : 1 ≤ k) (k2 : k ≤ 1000) (hE : w.heap[E]? = some (.cells #[.string ⟨#[102]⟩,.int .i64 4096,.int .i64 k,.int .u32 (M.printOf (oneIm b k)),.int .i64 1] 39 (0,0))) (hI : w.heap[I]? = some (.cells #[.slice (some ⟨D,0,none⟩) k 1024] 22 (0,0))) (hD : w.heap[D]? = some (.cells (dataArr b 1024) 5 (0,0))) (hg : Glob w) (hd : ActsIn w da dn dc down) (hdn : dn ≤ 65536) (hdp : ∀ y,y ∈ down → y.insert = false) :
  Calls Tryz.prog 10 #[.agg #[.int .i64 c.tries,.int .i64 c.wait,.int .i64 tries,.int .i64 room,.slice none 0 0],.slice (some ⟨E,0,none⟩) 1 1,.slice (some ⟨I,0,none⟩) 1 1,.slice da dn dc,.slice none 0 0,.int .i64 0] w (OneOf c tries room ([oneRE b k].map RE.toM) (oneIm b k) down w) := by
 have hl := oneIm_len b k (by omega)
 refine (wof_is c tries room (some ⟨E,0,none⟩) 1 1 [oneRE b k] (some ⟨I,0,none⟩) 1 1 [oneIm b k] [I,D] da dn dc down w hc h1 h2 h3 h4 (one_esRaw hE) rfl (Nat.le_refl _) (fun e => by cases e) (by omega) (fun e he => by simp only [List.mem_singleton] at he;subst he;simp [oneRE,ByteArray.size]) (one_imRaw k2 hI hD) rfl (Nat.le_refl _) (by omega) (fun im him => by simp only [List.mem_singleton] at him;subst him;omega) (fun x hx => by simp only [List.mem_cons,List.not_mem_nil,or_false] at hx;rcases hx with rfl | rfl;exact heap_lt hI;exact heap_lt hD) hg hd hdn hdp (fun _ => ⟨by omega,fun e he => by simp only [List.mem_singleton] at he;subst he;unfold RE.Pos oneRE;simp only;omega⟩)).mono ?_
 rintro e w' ⟨W,H,T,D',U,rfl,o,hW,hgood,_⟩
 obtain ⟨f,hS,hf⟩ := hgood (one_right b k k1 k2)
 exact ⟨W,H,T,D',U,f,rfl,o,hS,hf⟩
def roomSys (R : Nat) (b : M.B) (k J : Nat) : M.Sys :=
 { sys0 ⟨3,4⟩ 2 R ([oneRE b k].map RE.toM) [oneIm b k] [] with host := (sys0 ⟨3,4⟩ 2 R ([oneRE b k].map RE.toM) [oneIm b k] []).host.put (List.replicate J 0) }
theorem room_ends (R : Nat) (b : M.B) (k J : Nat) (k1 : 1 ≤ k) (k2 : k ≤ 1000) (hR : 1 ≤ R) (hJ : J ≤ 255) :
  RunOk 80 0 (roomSys R b k J) ∧ (((roomSys R b k J).run 80).host.phase == 7) = true ∧ ((((roomSys R b k J).run 80).host.err = 13 ∧ ((roomSys R b k J).run 80).host.k = 0) ∨ (J ≤ R ∧ ((roomSys R b k J).run 80).host.err = 0 ∧ (rd ((roomSys R b k J).run 80).board.store 4096 k == oneIm b k) = true)) := by
 have hl := oneIm_len b k (by omega)
 by_cases hj : J ≤ R
 ·have hg := room_run (oneP_ok 4 2 R b k k1 k2 (by omega) (by omega)) hR J hj (by omega)
  have e : { sys0 ⟨3,(oneP 4 2 R b k).W⟩ (oneP 4 2 R b k).T (oneP 4 2 R b k).R [(oneP 4 2 R b k).ent] [(oneP 4 2 R b k).im] [] with host := (sys0 ⟨3,(oneP 4 2 R b k).W⟩ (oneP 4 2 R b k).T (oneP 4 2 R b k).R [(oneP 4 2 R b k).ent] [(oneP 4 2 R b k).im] []).host.put (List.replicate J 0) } = roomSys R b k J := by
   unfold roomSys
   rw [oneP_ent 4 2 R b k k2]
   rfl
  rw [e] at hg
  obtain ⟨g1,g2,g3⟩ := hg
  refine ⟨g1,by simpa using g2,?_⟩
  rcases g3 with ⟨_,g4,g5⟩ | ⟨g4,g5⟩
  ·exact .inl ⟨g4,g5⟩
  ·refine .inr ⟨hj,g4,?_⟩
   have hlen : (oneP 4 2 R b k).im.length = k := hl
   rw [hlen] at g5
   have : rd ((roomSys R b k J).run 80).board.store 4096 k = oneIm b k := g5
   rw [this]
   simp
 ·have hne : List.replicate J (0 : UInt8) ≠ [] := by
   intro h
   have := congrArg List.length h
   simp at this
   omega
  obtain ⟨e1,e2,e3⟩ := hput_over (sys0 ⟨3,4⟩ 2 R ([oneRE b k].map RE.toM) [oneIm b k] []).host (List.replicate J 0) rfl (by show R < _;simpa using by omega) rfl (by show (0 : Nat) ≠ 7;decide)
  have hh : hput (sys0 ⟨3,4⟩ 2 R ([oneRE b k].map RE.toM) [oneIm b k] []).host (List.replicate J 0) = (roomSys R b k J).host := by unfold hput;rw [if_neg hne];rfl
  rw [hh] at e1 e2 e3
  have hrun := run_over 80 _ e1
  rw [hrun]
  exact ⟨.inl e1,by simpa using e1,.inl ⟨e2,e3⟩⟩
theorem lost_ends (W T : Nat) (b : M.B) (k r : Nat) (k1 : 1 ≤ k) (k2 : k ≤ 1000) (w2 : 2 ≤ W) (w6 : W ≤ 6) (hr : r ≤ 2) :
  RunOk 90 0 (sys0 ⟨3,W⟩ T 4096 ([oneRE b k].map RE.toM) [oneIm b k] (lostActs r)) ∧ (((sys0 ⟨3,W⟩ T 4096 ([oneRE b k].map RE.toM) [oneIm b k] (lostActs r)).run 90).host.phase == 7) = true ∧ ((sys0 ⟨3,W⟩ T 4096 ([oneRE b k].map RE.toM) [oneIm b k] (lostActs r)).run 90).host.err = 0 ∧ (rd ((sys0 ⟨3,W⟩ T 4096 ([oneRE b k].map RE.toM) [oneIm b k] (lostActs r)).run 90).board.store 4096 k == oneIm b k) = true := by
 have hl := oneIm_len b k (by omega)
 have hg := lost_run (oneP_ok W T 4096 b k k1 k2 w2 w6) (by show 1 ≤ 4096;decide) r hr
 have e : sys0 ⟨3,(oneP W T 4096 b k).W⟩ (oneP W T 4096 b k).T (oneP W T 4096 b k).R [(oneP W T 4096 b k).ent] [(oneP W T 4096 b k).im] (lostActs r) = sys0 ⟨3,W⟩ T 4096 ([oneRE b k].map RE.toM) [oneIm b k] (lostActs r) := by
  rw [oneP_ent W T 4096 b k k2]
  rfl
 rw [e] at hg
 obtain ⟨g1,g2,g3⟩ := hg
 rcases g3 with ⟨g4,_⟩ | ⟨g4,g5⟩
 ·exact absurd g4 (by show ¬ 4096 < 40;decide)
 ·refine ⟨g1,by simpa using g2,g4,?_⟩
  have hlen : (oneP W T 4096 b k).im.length = k := hl
  rw [hlen] at g5
  have h : rd ((sys0 ⟨3,W⟩ T 4096 ([oneRE b k].map RE.toM) [oneIm b k] (lostActs r)).run 90).board.store 4096 k = oneIm b k := g5
  rw [h]
  exact beq_self_eq_true _
end Go.Proofs.YtplaamfoeaaaiaaGreatDoor
namespace Go.Proofs.YtplaamfoeaaaiaaGreatDoor.lrb
open Go.ChangeShapes Go.WideShapes Go.ChangeAt Go.RowKit Go.Deep
theorem cells5 : Tryz.prog.cellsOf 5 = 1 := by kernel_rfl
theorem bytes_open {H : Type} {enc : TypeId × Value → H} {W : World} {n : Nat} {c : Value} {d : DataW H} {pl : List MemPlace} (ht : DataW.trod enc Tryz.prog W 0 (fun _ => true) true n 22 [c] = some (d,pl)) :
  ∃ (p : Option Addr) (m cp : Nat) (bs : List UInt8),c = .slice p m cp ∧ bs.length = m ∧ Bytes W p bs ∧ m ≤ cp ∧ cp ≤ maxLen ∧ (p = none → cp = 0) ∧ (∀ ad,p = some ad → bs ≠ [] → ad.block < W.heap.size) := by
 rcases open_ints Tryz.underlying22 Tryz.underlying5 cells5 ht with ⟨hcs,hx⟩ | ⟨x,l,cp,zs,hcs,_,hl,hm,hz,hx,hcell,hwz⟩
 ·have hc : c = .slice none 0 0 := by simpa using hcs
  exact ⟨none,0,0,[],hc,rfl,⟨fun _ => rfl,(fun ad e => by cases e)⟩,Nat.le_refl _,by simp [maxLen],fun _ => rfl,(fun ad e => by cases e)⟩
 ·have hc : c = .slice (some x) l cp := by simpa using hcs
  have hz' : zs.length = cp := by simpa using hz
  have hby : ∀ z,z ∈ zs → 0 ≤ z ∧ z ≤ 255 := fun z hzm => by
   have := hwz z hzm
   simp [Lit.wf] at this
   have e1 : IntKind.u8.min = 0 := by decide
   have e2 : IntKind.u8.max = 255 := by decide
   omega
  refine ⟨some x,l,cp,(zs.take l).map (fun z => UInt8.ofNat z.toNat),hc,by simp;omega,⟨(fun e => by cases e),fun ad e i hi => ?_⟩,hl,hm,(fun e => by cases e),fun ad e hne => ?_⟩
  ·cases e
   simp only [List.length_map,List.length_take] at hi
   rw [hcell i (by omega)]
   have h1 : ((zs.take l).map (fun z => UInt8.ofNat z.toNat)).getD i 0 = UInt8.ofNat (zs.getD i 0).toNat := by
    have hi2 : i < zs.length := by omega
    have hi3 : i < l := by omega
    simp [List.getD,hi2,hi3]
   rw [h1]
   have h2 := hby (zs.getD i 0) (by
    have hi2 : i < zs.length := by omega
    simp [List.getD,hi2])
   unfold byteV
   rw [UInt8.toNat_ofNat',Nat.mod_eq_of_lt (by omega)]
   have : ((zs.getD i 0).toNat : Int) = zs.getD i 0 := by omega
   rw [this]
  ·cases e
   have hp : 0 < zs.length := by
    rcases Nat.eq_zero_or_pos zs.length with h | h
    ·rw [List.eq_nil_of_length_eq_zero h] at hne;simp at hne
    ·exact h
   have := World.block_lt_of_cell? W _ (hcell 0 hp)
   simpa [Addr.add] using this
theorem et : Tryz.prog.globalNamed "errors.errorType" = some 0 := by kernel_rfl
theorem rt : (Tryz.prog.cutTypes.find? (·.1 == "internal/reflectlite.rtype")).map (·.2) = some 169 := by kernel_rfl
theorem oneRow : ((List.range 392).filter fun t => Tryz.prog.rowNamed t [101,114,114,111,114]) = [46] := by kernel_rfl
theorem types : Tryz.prog.types.size = 392 := by kernel_rfl
theorem handleHead : (lai.laidL.filter fun x => x.2.handleName?.isSome) = [("errors.errorType",Rows.laid_errors_errorType)] := by kernel_rfl
theorem handleSig : (Rows.laid_errors_errorType : DataW Unit).handleName? = some [101,114,114,111,114] := by kernel_rfl
theorem handleFun : (Rows.laid_errors_errorType : DataW Unit).funcsIn? = none := by kernel_rfl
theorem handle_of_laid {W : World} (h : laidMetH Tryz.prog lai.laidL W) : W.cell? ⟨0,0,none⟩ = some (.iface 169 (.agg #[.pointer (some ⟨9,46,none⟩)])) := by
 have h2 := (laidMetH_iff.1 h).2
 rw [handleHead] at h2
 have h3 := h2 _ (List.mem_singleton.2 rfl)
 simp only [handleFun] at h3
 obtain ⟨name,u,ty,e1,e2,e3,e4,e5⟩ := h3
 rw [handleSig] at e1
 have en : name = [101,114,114,111,114] := (Option.some.inj e1).symm
 subst en
 obtain rfl := Option.some.inj (rt.symm.trans e2)
 have hm : ty ∈ (List.range 392).filter fun t => Tryz.prog.rowNamed t [101,114,114,111,114] := List.mem_filter.2 ⟨List.mem_range.2 (by rw [← types];exact e3),e4⟩
 rw [oneRow] at hm
 obtain rfl := List.mem_singleton.1 hm
 have hh : typeHandle Tryz.prog 46 = .pointer (some ⟨9,46,none⟩) := by kernel_rfl
 rw [hh] at e5
 simpa using World.var?_cell et e5 0
theorem u16b {a : Int} (w : (Lit.int .u16 a).wf = true) : ∃ n : Nat,n < 65536 ∧ a = n := by
 have m16 : IntKind.u16.min = 0 ∧ IntKind.u16.max = 65535 := by decide
 simp [Lit.wf] at w
 exact ⟨a.toNat,by omega,by omega⟩
theorem u8b {a : Int} (w : (Lit.int .u8 a).wf = true) : ∃ n : Nat,n < 256 ∧ a = n := by
 have m8 : IntKind.u8.min = 0 ∧ IntKind.u8.max = 255 := by decide
 simp [Lit.wf] at w
 exact ⟨a.toNat,by omega,by omega⟩
end Go.Proofs.YtplaamfoeaaaiaaGreatDoor.lrb
