/- The law TopRoom is proved for every input (the tied card): where more comes than there is room for, the host fails, and says so; it never goes on as if nothing was lost. Conditions: none. -/
import Derived.Test.YtplaamfoeaaaiaaGreatDoorK02
import Derived.Test.YtplaamfoeaaaiaaGreatDoorK03
import Derived.Test.YtplaamfoeaaaiaaGreatDoorL01
import Derived.Test.YtplaamfoeaaaiaaGreatDoorRows
import Derived.WalkKit
import Derived.LaidEql
import Derived.Stop.Asserts
import Derived.RowKitTokens
import Derived.LoopN
import Derived.Deep.DeepCutAuto
set_option maxRecDepth 100000
set_option maxHeartbeats 8000000
set_option linter.unusedVariables false
namespace Go.Proofs.YtplaamfoeaaaiaaGreatDoor.asn
open Go.RowKit Go.Extern.Stop Go.Stop Go.Extern
theorem valueOfP (t : Addr) (w : World) : (ReflectliteValue.unpack (.iface 100 (.pointer (some t)))).run Tryz.prog w
  = .ok (.agg #[.pointer (some ⟨9,100,none⟩),.pointer (some ⟨w.heap.size,0,none⟩),.int .u64 150]) (w.alloc (.cells #[.pointer (some t)] 100)) := by kernel_rfl
theorem typeP (a : Addr) (w : World) : (ReflectliteValue.methodAny (ReflectliteValue.valueError "reflectlite.Value.Type" 0) (fun t _ _ _ => ReflectliteType.toType t) #[.agg #[.pointer (some ⟨9,100,none⟩),.pointer (some a),.int .u64 150]]).run Tryz.prog w
  = .ok (.iface 169 (.agg #[.pointer (some ⟨9,100,none⟩)])) w := by kernel_rfl
theorem kindP (w : World) : ((ReflectliteType.abiMethod fun t => (fun a : Nat => Value.int IntKind.u8 (a : Int)) <$> Rtype.kind t) #[.pointer (some ⟨9,100,none⟩)]).run Tryz.prog w = .ok (.int .u8 22) w := by kernel_rfl
theorem kindE (w : World) : ((ReflectliteType.abiMethod fun t => (fun a : Nat => Value.int IntKind.u8 (a : Int)) <$> Rtype.kind t) #[.pointer (some ⟨9,57,none⟩)]).run Tryz.prog w = .ok (.int .u8 2) w := by kernel_rfl
theorem rlm (z : Sem Value) (f : TypeId → Addr → Nat → Nat → Sem Value) (v : Value) :
  ReflectliteValue.method z f #[v] = (do match ← ReflectliteValue.parts v with | none => z | some (t,a,fl) => f t a fl (fl % 32)) := rfl
theorem partsP (a : Addr) (w : World) : (ReflectliteValue.parts (.agg #[.pointer (some ⟨9,100,none⟩),.pointer (some a),.int .u64 150])).run Tryz.prog w = .ok (some (100,a,150)) w := by kernel_rfl
theorem isNilP (a p : Addr) (W : World) (ha : W.cell? a = some (.pointer (some p))) : (ReflectliteValue.method (ReflectliteValue.valueError "reflectlite.Value.IsNil" 0) ReflectliteValue.isNil #[.agg #[.pointer (some ⟨9,100,none⟩),.pointer (some a),.int .u64 150]]).run Tryz.prog W = .ok (.bool false) W := by
 rw [rlm]
 simp only [Sem.run_bind,partsP,Result.andThen]
 simp [ReflectliteValue.isNil,loadVar,isAgg,underlying,Tryz.underlying100,ha,Result.andThen]
theorem elemP (w : World) : (ReflectliteType.method ReflectliteType.elem #[.agg #[.pointer (some ⟨9,100,none⟩)]]).run Tryz.prog w = .ok (.iface 169 (.agg #[.pointer (some ⟨9,57,none⟩)])) w := by kernel_rfl
theorem implementsE (w : World) : (ReflectliteType.relation "Implements" ReflectliteType.implements_ #[.agg #[.pointer (some ⟨9,57,none⟩)],.iface 169 (.agg #[.pointer (some ⟨9,46,none⟩)])]).run Tryz.prog w = .ok (.bool true) w := by kernel_rfl
theorem typeOfE (v : Value) (w : World) : (ReflectliteType.typeOf #[.iface 57 v]).run Tryz.prog w = .ok (.iface 169 (.agg #[.pointer (some ⟨9,57,none⟩)])) w := by kernel_rfl
theorem assignableE (w : World) : (ReflectliteType.relation "AssignableTo" ReflectliteType.assignableTo #[.agg #[.pointer (some ⟨9,57,none⟩)],.iface 169 (.agg #[.pointer (some ⟨9,57,none⟩)])]).run Tryz.prog w = .ok (.bool true) w := by kernel_rfl
theorem valueOfE (n : Int) (w : World) : (ReflectliteValue.unpack (.iface 57 (.int .i64 n))).run Tryz.prog w
  = .ok (.agg #[.pointer (some ⟨9,57,none⟩),.pointer (some ⟨w.heap.size,0,none⟩),.int .u64 130]) (w.alloc (.cells #[.int .i64 n] 57)) := by kernel_rfl
theorem elemOfP (w : World) : (Rtype.elem? 100).run Tryz.prog w = .ok (some 57) w := by kernel_rfl
theorem mkE (p : Addr) (w : World) : (ReflectliteValue.mk 57 p ReflectliteValue.flagAddr).run Tryz.prog w = .ok (.agg #[.pointer (some ⟨9,57,none⟩),.pointer (some p),.int .u64 386]) w := by kernel_rfl
theorem elemVP (a p : Addr) (W : World) (ha : W.cell? a = some (.pointer (some p))) : (ReflectliteValue.method (ReflectliteValue.valueError "reflectlite.Value.Elem" 0) ReflectliteValue.elem #[.agg #[.pointer (some ⟨9,100,none⟩),.pointer (some a),.int .u64 150]]).run Tryz.prog W
   = .ok (.agg #[.pointer (some ⟨9,57,none⟩),.pointer (some p),.int .u64 386]) W := by
 rw [rlm]
 simp only [Sem.run_bind,partsP,Result.andThen]
 simp [ReflectliteValue.elem,loadVar,isAgg,underlying,Tryz.underlying100,ha,Result.andThen,elemOfP,mkE]
theorem rls (v x : Value) : ReflectliteValue.set #[v,x] = (do
  let (some (dst,a,fl),some (src,b,_)) := (← ReflectliteValue.parts v,← ReflectliteValue.parts x)
   | unsupported (.noEntry "extern/(internal/reflectlite.Value).Set.zeroValue")
  if fl / ReflectliteValue.flagAddr % 2 == 0 then unsupported (.noEntry "extern/(internal/reflectlite.Value).Set.unaddressable")
  let val ← loadVar src b
  if ← Rtype.directlyAssignable dst src then storeVar dst a val
  else if ← Rtype.implements dst src then
   if (← Rtype.kind src) == 20 then
    match val with
    | .nilIface => unsupported (.noEntry "extern/reflectlite: a nil value of one interface type handed on as a value of another")
    | _ => storeVar dst a val
   else storeVar dst a (.iface src val)
  else panicString ("reflectlite.Set: value of type " ++ (← Rtype.spelt src) ++ " is not assignable to type " ++ (← Rtype.spelt dst))
  pure (.tuple #[])) := rfl
theorem partsEa (a : Addr) (w : World) : (ReflectliteValue.parts (.agg #[.pointer (some ⟨9,57,none⟩),.pointer (some a),.int .u64 386])).run Tryz.prog w = .ok (some (57,a,386)) w := by kernel_rfl
theorem partsE (a : Addr) (w : World) : (ReflectliteValue.parts (.agg #[.pointer (some ⟨9,57,none⟩),.pointer (some a),.int .u64 130])).run Tryz.prog w = .ok (some (57,a,130)) w := by kernel_rfl
theorem directE (w : World) : (Rtype.directlyAssignable 57 57).run Tryz.prog w = .ok true w := by kernel_rfl
theorem setE (ta b : Addr) (n : Int) (old : Value) (W : World) (hb : W.cell? b = some (.int .i64 n)) (ht : W.cell? ta = some old) (hf : W.frozen? ta = false) : (ReflectliteValue.set #[.agg #[.pointer (some ⟨9,57,none⟩),.pointer (some ta),.int .u64 386],.agg #[.pointer (some ⟨9,57,none⟩),.pointer (some b),.int .u64 130]]).run Tryz.prog W
   = .ok (.tuple #[]) (W.setCell ta (.int .i64 n)) := by
 rw [rls]
 simp only [Sem.run_bind,partsEa,partsE,Result.andThen]
 simp [ReflectliteValue.flagAddr,loadVar,isAgg,underlying,Tryz.underlying57,hb,Result.andThen,directE,storeVar,Value.cells,storeCells,Addr.add]
 rw [run_store Tryz.prog W ta _ _ (by rfl)]
 simp [ht,hf]
theorem methodKind (h : Value) (w : World) : (Go.method 492 169 (.agg #[h]) "Kind").run Tryz.prog w = .ok (198,h) w := by kernel_rfl
theorem methodElem (h : Value) (w : World) : (Go.method 492 169 (.agg #[h]) "Elem").run Tryz.prog w = .ok (215,.agg #[h]) w := by kernel_rfl
theorem methodImplements (h : Value) (w : World) : (Go.method 492 169 (.agg #[h]) "Implements").run Tryz.prog w = .ok (216,.agg #[h]) w := by kernel_rfl
theorem methodAssignableTo (h : Value) (w : World) : (Go.method 492 169 (.agg #[h]) "AssignableTo").run Tryz.prog w = .ok (213,.agg #[h]) w := by kernel_rfl
theorem as_hit (n : Int) (t : Addr) (old : Value) (w : World) (hg : w.cell? ⟨0,0,none⟩ = some (.iface 169 (.agg #[.pointer (some ⟨9,46,none⟩)]))) (ht0 : w.cell? t = some old) (hf0 : w.frozen? t = false) :
  Calls Tryz.prog 32 #[.iface 57 (.int .i64 n),.iface 100 (.pointer (some t))] w fun ev w' => ev = .returned (.bool true) ∧ w' = ((((w.alloc (.cells #[.pointer (some t)] 100)).alloc (.cells #[.pointer (some ⟨9,100,none⟩),.pointer (some ⟨w.heap.size,0,none⟩),.int .u64 150] 131)).alloc (.cells #[.pointer (some ⟨9,100,none⟩),.pointer (some ⟨w.heap.size,0,none⟩),.int .u64 150] 131)).alloc (.cells #[.int .i64 n] 57)).setCell t (.int .i64 n) := by
 have h6 := @run_callFunc_extern Tryz.prog 54 _ (fun args => ReflectliteValue.unpack (args.getD 0 (.tuple #[]))) Tryz.func54 (by kernel_rfl) (by kernel_rfl) (by kernel_rfl) (by kernel_rfl)
 have h7 := @run_callFunc_extern Tryz.prog 55 _ (ReflectliteValue.methodAny (ReflectliteValue.valueError "reflectlite.Value.Type" 0) (fun t _ _ _ => ReflectliteType.toType t)) Tryz.func55 (by kernel_rfl) (by kernel_rfl) (by kernel_rfl) (by kernel_rfl)
 have h8 := @run_callFunc_extern Tryz.prog 56 _ (ReflectliteValue.method (ReflectliteValue.valueError "reflectlite.Value.IsNil" 0) ReflectliteValue.isNil) Tryz.func56 (by kernel_rfl) (by kernel_rfl) (by kernel_rfl) (by kernel_rfl)
 have h27 := @run_callFunc_extern Tryz.prog 198 _ (ReflectliteType.abiMethod fun t => do pure (.int .u8 (← Rtype.kind t))) Tryz.func198 (by kernel_rfl) (by kernel_rfl) (by kernel_rfl) (by kernel_rfl)
 have h37 := @run_callFunc_extern Tryz.prog 215 _ (ReflectliteType.method ReflectliteType.elem) Tryz.func215 (by kernel_rfl) (by kernel_rfl) (by kernel_rfl) (by kernel_rfl)
 have h38 := @run_callFunc_extern Tryz.prog 216 _ (ReflectliteType.relation "Implements" ReflectliteType.implements_) Tryz.func216 (by kernel_rfl) (by kernel_rfl) (by kernel_rfl) (by kernel_rfl)
 have h10 := @run_callFunc_extern Tryz.prog 77 _ ReflectliteType.typeOf Tryz.func77 (by kernel_rfl) (by kernel_rfl) (by kernel_rfl) (by kernel_rfl)
 have h35 := @run_callFunc_extern Tryz.prog 213 _ (ReflectliteType.relation "AssignableTo" ReflectliteType.assignableTo) Tryz.func213 (by kernel_rfl) (by kernel_rfl) (by kernel_rfl) (by kernel_rfl)
 have h11 := @run_callFunc_extern Tryz.prog 78 _ (ReflectliteValue.method (ReflectliteValue.valueError "reflectlite.Value.Elem" 0) ReflectliteValue.elem) Tryz.func78 (by kernel_rfl) (by kernel_rfl) (by kernel_rfl) (by kernel_rfl)
 have h12 := @run_callFunc_extern Tryz.prog 79 _ ReflectliteValue.set Tryz.func79 (by kernel_rfl) (by kernel_rfl) (by kernel_rfl) (by kernel_rfl)
 have tO := typeOfE
 have mA := methodAssignableTo
 have a25 := assignableE
 have v25 := valueOfE n
 have f6 := valueOfP
 have f7 := typeP
 have mK := methodKind
 have mE := methodElem
 have mI := methodImplements
 have k27 := kindP
 have k25 := kindE
 have e27 := elemP
 have i25 := implementsE
 have n8 := isNilP ⟨w.heap.size,0,none⟩ t ((w.alloc (.cells #[.pointer (some t)] 100)).alloc (.cells #[.pointer (some ⟨9,100,none⟩),.pointer (some ⟨w.heap.size,0,none⟩),.int .u64 150] 131)) (by simp)
 have hlt : 0 < w.heap.size := by
  rcases Nat.eq_zero_or_pos w.heap.size with h0 | h
  ·simp [World.cell?,h0] at hg
  ·exact h
 have hg2 : ((w.alloc (.cells #[.pointer (some t)] 100)).alloc (.cells #[.pointer (some ⟨9,100,none⟩),.pointer (some ⟨w.heap.size,0,none⟩),.int .u64 150] 131)).cell? ⟨0,0,none⟩ = some (.iface 169 (.agg #[.pointer (some ⟨9,46,none⟩)])) := by
  rw [World.cell?_alloc_lt _ _ ⟨0,0,none⟩ (by simp),World.cell?_alloc_lt _ _ ⟨0,0,none⟩ hlt];exact hg
 have htl : t.block < w.heap.size := by
  rcases Nat.lt_or_ge t.block w.heap.size with h | h
  ·exact h
  ·simp [World.cell?,Array.getElem?_eq_none h] at ht0
 have el := elemVP ⟨w.heap.size,0,none⟩ t (((w.alloc (.cells #[.pointer (some t)] 100)).alloc (.cells #[.pointer (some ⟨9,100,none⟩),.pointer (some ⟨w.heap.size,0,none⟩),.int .u64 150] 131)).alloc (.cells #[.pointer (some ⟨9,100,none⟩),.pointer (some ⟨w.heap.size,0,none⟩),.int .u64 150] 131)) (by rw [World.cell?_alloc_lt _ _ ⟨w.heap.size,0,none⟩ (by simp;omega)];simp)
 have st := setE t ⟨w.heap.size + 1 + 1 + 1,0,none⟩ n old ((((w.alloc (.cells #[.pointer (some t)] 100)).alloc (.cells #[.pointer (some ⟨9,100,none⟩),.pointer (some ⟨w.heap.size,0,none⟩),.int .u64 150] 131)).alloc (.cells #[.pointer (some ⟨9,100,none⟩),.pointer (some ⟨w.heap.size,0,none⟩),.int .u64 150] 131)).alloc (.cells #[.int .i64 n] 57)) (by rw [World.cell?_alloc_at _ _ _ _ (by simp)];rfl) (by rw [World.cell?_alloc_lt _ _ t (by simp;omega),World.cell?_alloc_lt _ _ t (by simp;omega),World.cell?_alloc_lt _ _ t (by simp;omega),World.cell?_alloc_lt _ _ t htl];exact ht0) (by rw [World.frozen?_alloc_old _ _ t (by simp;omega),World.frozen?_alloc_old _ _ t (by simp;omega),World.frozen?_alloc_old _ _ t (by simp;omega),World.frozen?_alloc_old _ _ t (Nat.ne_of_lt htl)];exact hf0)
 go_enter Tryz.func32,Tryz.ntmps32
 go_wp2
 refine wp_loop_rounds 1 ?_
 rw [rounds_succ]
 go_wp2
 go_ret
 exact ⟨rfl,rfl⟩
end Go.Proofs.YtplaamfoeaaaiaaGreatDoor.asn
namespace Go.Proofs.YtplaamfoeaaaiaaGreatDoor
open Go.RowKit
theorem number_is (n : Int) (w : World) (hg : w.cell? ⟨0,0,none⟩ = some (.iface 169 (.agg #[.pointer (some ⟨9,46,none⟩)]))) :
  Calls Tryz.prog 14 #[.iface 57 (.int .i64 n)] w fun e w' => e = .returned (.int .i64 n) ∧ Only [] w w' := by
 obtain ⟨w1,hw1⟩ : ∃ w1,w1 = w.alloc (.cells #[.int .i64 0] 57) := ⟨_,rfl⟩
 obtain ⟨T,hT⟩ : ∃ T,T = w.heap.size := ⟨_,rfl⟩
 have h1 : w1.heap[T]? = some (.cells #[.int .i64 0] 57 (0,0)) := by rw [hw1,hT];exact heap_alloc_new w _
 have o1 : Only [] w w1 := by rw [hw1];exact (Only.refl [] w).alloc _
 have hTl : T < w1.heap.size := heap_lt h1
 have hA := asn.as_hit n ⟨T,0,none⟩ (.int .i64 0) w1 (o1.cell hg (by simp)) (cell_at h1 rfl) (free_at h1)
 have HA : Calls Tryz.prog 32 #[.iface 57 (.int .i64 n),.iface 100 (.pointer (some ⟨T,0,none⟩))] w1 fun e w' => e = .returned (.bool true) ∧ w'.cell? ⟨T,0,none⟩ = some (.int .i64 n) ∧ Only [T] w1 w' := by
  refine hA.mono ?_
  rintro e w' ⟨rfl,rfl⟩
  have oo : Only [] w1 ((((w1.alloc (.cells #[.pointer (some ⟨T,0,none⟩)] 100)).alloc (.cells #[.pointer (some ⟨9,100,none⟩),.pointer (some ⟨w1.heap.size,0,none⟩),.int .u64 150] 131)).alloc (.cells #[.pointer (some ⟨9,100,none⟩),.pointer (some ⟨w1.heap.size,0,none⟩),.int .u64 150] 131)).alloc (.cells #[.int .i64 n] 57)) := ((((Only.refl [] w1).alloc _).alloc _).alloc _).alloc _
  have hh := oo.heap h1 (by simp)
  refine ⟨rfl,?_,(oo.weaken (by simp)).trans (only_set _ T 0 _)⟩
  have := heap_set_same hh (v := .int .i64 n) (i := 0)
  exact cell_at this rfl
 have H1 := LH (AI HA (AI o1 hT))
 clear hA HA o1 hg
 go_enter Tryz.func14,Tryz.ntmps14
 go_upto_region 2 with fail
 rw [← hT,← hw1]
 clear hT hw1
 go_wp2_with (go_at_call 32;go_loud (refine H1.out.1.mono ?_;rintro e w2 ⟨rfl,c2,o2⟩;have H2 := LH o2;clear o2))
 go_ret
 refine ⟨rfl,?_⟩
 have o := H1.out.2.1
 have hT2 := H1.out.2.2
 refine ⟨H2.out.os.trans o.os,H2.out.tape.trans o.tape,H2.out.output.trans o.output,Nat.le_trans o.size H2.out.size,fun k hk _ => ?_⟩
 rw [H2.out.block k (Nat.lt_of_lt_of_le hk o.size) (by simp;omega)]
 exact o.block k hk (by simp)
theorem troom_is (ba : Option Addr) (mb bc : Nat) (b : M.B) (sz rm jk : Nat) (w : World) (hb : Bytes w ba b) (hba : b = [] ∨ ∀ ad,ba = some ad → ad.block < w.heap.size) (hmb : b.length = mb) (hMb : mb ≤ 9223372036854775807) (hs : sz < 65536) (hr : rm < 256) (hj : jk < 256) (hg : Glob w) (hh : w.cell? ⟨0,0,none⟩ = some (.iface 169 (.agg #[.pointer (some ⟨9,46,none⟩)]))) :
  Calls Tryz.prog 4 #[.slice ba mb bc,.int .u16 sz,.int .u8 rm,.int .u8 jk] w fun e w' => e = .returned (.bool true) ∧ Only [] w w' := by
 have HAW := LH (awake_is w hg)
 have HON := LH (fun wx (o : Only [] w wx) => one_is ba mb bc b sz wx (hb.of_only o (.inr (fun ad e => by simp))) (hba.imp id (fun h ad e => Nat.lt_of_lt_of_le (h ad e) o.size)) hmb hMb hs)
 have HG := LH (AI hg hh)
 obtain ⟨q,hq⟩ : ∃ q,q = rm % 40 := ⟨_,rfl⟩
 have hq40 : q < 40 := by omega
 have hmod : (rm : Int).tmod 40 = (q : Int) := by rw [Int.tmod_eq_emod_of_nonneg (by omega)];omega
 obtain ⟨R,hR⟩ : ∃ R,R = 1 + q := ⟨_,rfl⟩
 have hadd : (1 : Int) + (q : Int) = (R : Int) := by omega
 have hR1 : 1 ≤ R := by omega
 have hR40 : R ≤ 40 := by omega
 obtain ⟨k,hk⟩ : ∃ k,1 + sz % 1000 = k := ⟨_,rfl⟩
 have hk1 : 1 ≤ k := by omega
 have hk2 : k ≤ 1000 := by omega
 rw [hk] at HON
 have HE := LH (room_ends R b k jk hk1 hk2 hR1 (by omega))
 clear hb hba hmb hMb hg hh hq hR hk
 go_enter Tryz.func4,Tryz.ntmps4
 go_upto_region 3 with (go_at_call 6;go_loud (refine HAW.out.mono ?_;rintro e w1 ⟨rfl,o1⟩;have H1 := LH o1;clear o1))
 go_upto_region 4 with (go_at_call 7;go_loud (refine (HON.out _ H1.out).mono ?_;rintro e w2 ⟨E,I,D,rfl,hDw,hE,hI,hD,o2⟩;have H2 := LH (AI (H1.out.trans o2) (AI hE (AI hI hD)));clear hDw hE hI hD o2))
 go_upto_region 5 with fail
 obtain ⟨C,hC⟩ : ∃ C,C = w2.heap.size := ⟨_,rfl⟩
 obtain ⟨w3,hw3⟩ : ∃ w3,w3 = w2.alloc (.cells #[.int .i64 3,.int .i64 4,.int .i64 2,.int .i64 R,.slice none 0 0] 34) := ⟨_,rfl⟩
 have hC3 : w3.heap[C]? = some (.cells #[.int .i64 3,.int .i64 4,.int .i64 2,.int .i64 R,.slice none 0 0] 34 (0,0)) := by rw [hw3,hC];exact heap_alloc_new w2 _
 have o23 : Only [] w2 w3 := by rw [hw3];exact (Only.refl [] w2).alloc _
 rw [← hC,← hw3]
 have a0 : w3.cell? ⟨C,0,none⟩ = some (.int .i64 3) := cell_at hC3 rfl
 have a1 : w3.cell? ⟨C,1,none⟩ = some (.int .i64 4) := cell_at hC3 rfl
 have a2 : w3.cell? ⟨C,2,none⟩ = some (.int .i64 2) := cell_at hC3 rfl
 have a3 : w3.cell? ⟨C,3,none⟩ = some (.int .i64 R) := cell_at hC3 rfl
 have a4 : w3.cell? ⟨C,4,none⟩ = some (.slice none 0 0) := cell_at hC3 rfl
 have o3 := H2.out.1.trans o23
 have HOF : Hid (Calls Tryz.prog 10 #[.agg #[.int .i64 3,.int .i64 4,.int .i64 2,.int .i64 R,.slice none 0 0],.slice (some ⟨E,0,none⟩) 1 1,.slice (some ⟨I,0,none⟩) 1 1,.slice none 0 0,.slice none 0 0,.int .i64 0] w3 (OneOf ⟨3,4⟩ 2 R ([oneRE b k].map RE.toM) (oneIm b k) [] w3)) :=
  LH (one_of ⟨3,4⟩ 2 R b k E I D none 0 0 [] w3 (by unfold CfgOk;simp only;omega) (by omega) (by omega) hR1 (by omega) hk1 hk2 (o23.heap H2.out.2.1 (by simp)) (o23.heap H2.out.2.2.1 (by simp)) (o23.heap H2.out.2.2.2 (by simp)) (HG.out.1.of_none o3) ⟨rfl,.inl ⟨rfl,rfl,rfl⟩⟩ (by omega) (fun y hy => by simp at hy))
 have H3 := LH (AI o3 (AI hC3 (AI (o23.heap H2.out.2.1 (by simp)) (AI (o23.heap H2.out.2.2.1 (by simp)) (o23.heap H2.out.2.2.2 (by simp))))))
 clear hC hw3 o23 o3 hC3 hmod hadd
 go_upto_region 6 with (go_at_call 10;go_loud (refine HOF.out.mono ?_;rintro e w4 ⟨W,H,T,DW,U,f,rfl,o4,hS,hf⟩;have H4 := LH (AI o4 (AI hS hf));clear o4 hS hf))
 clear a0 a1 a2 a3 a4
 have c0 : w4.cell? ⟨W,0,none⟩ = some (.pointer (some ⟨H,0,none⟩)) := cell_at H4.out.2.1.str rfl
 have hwj : IntKind.i64.wrap (jk : Int) = (jk : Int) := IntWalk.i64_in _ (by omega)
 have hmk := fun w => make_bytes w jk (by omega)
 have o4x : Only [] w4 (w4.alloc (.cells (madeCells #[.int .u8 0] jk) 5)).drew := ((Only.refl [] w4).alloc _).drew
 have hZ : (w4.alloc (.cells (madeCells #[.int .u8 0] jk) 5)).drew.heap[w4.heap.size]? = some (.cells (madeCells #[.int .u8 0] jk) 5 (0,0)) := heap_alloc_new w4 _
 have HPU := LH (hput_is (some ⟨w4.heap.size,0,none⟩) jk jk (List.replicate jk 0) H (f 1) _ _ (H4.out.2.1.host.of_only o4x (fun b _ => by simp)) (by
  refine ⟨(fun e => by cases e),fun ad e i hi => ?_⟩
  cases e
  rw [List.length_replicate] at hi
  rw [Addr.add_lit,Nat.zero_add]
  refine cell_at hZ ?_
  simp [madeCells,byteV,hi,List.getD,Nat.mod_one]) (by simp) (Nat.le_refl _) (by omega) (fun ad e hm => by cases e;exact absurd (H4.out.2.1.live 1 _ hm) (Nat.lt_irrefl _)) (by show 0 + jk ≤ 1000000;omega))
 have HN := LH (AI (o4x.cell c0 (by simp)) (H4.out.2.1.notW (j := 1) (by decide)))
 clear hZ
 go_region_held3 (fun w' => w'.cell? ⟨W,0,none⟩ = some (.pointer (some ⟨H,0,none⟩))) (first | exact c0 | exact c05 | go_keep) ((go_at_call 13;go_loud (refine HPU.out.mono ?_;rintro e w5 ⟨rfl,fp,hx,hev⟩;have c05 := hev.only.cell HN.out.1 HN.out.2;have H5 := LH (AI hx hev);clear hx hev)))
 rename_i hHeld
 clear hHeld c0 hwj hmk
 have hS5 : SysAt w5 W H T DW U (upd f 1 fp) 0 (roomSys R b k jk) := (H4.out.2.1.of_none o4x).setHost _ H5.out.2 H5.out.1
 have hev5 := ev_upd' (f := f) (i := 1) (by decide) H5.out.2
 have hf5 : ∀ b,b ∈ allF (upd f 1 fp) → w3.heap.size ≤ b := fun b hb => by
  rcases hev5.grow b hb with h | h
  ·exact H4.out.2.2 b h
  ·have h1 := H4.out.1.size
   have h2 := o4x.size
   omega
 have o35 : Only [] w3 w5 := Only.transFresh (H4.out.1.trans o4x) hev5.only (fun b hb => H4.out.2.2 b hb)
 have hrun := sysrun_is 80 W H T DW U (upd f 1 fp) 0 _ w5 hS5 (by omega) HE.out.1
 rw [HE.out.2.1] at hrun
 have hfar : ∀ (w6 : World) (o : Only (allF (upd f 1 fp)) w5 w6) {ad : Addr} {v : Value},w3.cell? ad = some v → w6.cell? ad = some v := fun w6 o {ad v} h => o.cell (o35.cell h (by simp)) (fun hm => by have h1 := hf5 _ hm;have h2 := World.block_lt_of_cell? w3 _ h;omega)
 have H6 := LH (AI o35 (AI hf5 hfar))
 clear o4x hS5 hev5 hf5 o35 hfar
 have hn13 : ((13 : Int) == 13) = true := rfl
 rcases HE.out.2.2 with ⟨e13,hk0⟩ | ⟨hjR,e0,hrd⟩
 ·rw [e13,show errV 13 = .iface 57 (.int .i64 13) from rfl] at hrun
  have HR := LH hrun
  have HK := LH hk0
  clear hrun e13 hk0
  go_upto_region 8 with (go_at_call 11;go_loud (refine HR.out.mono ?_;rintro e w6 ⟨rfl,f6,N6,hS6,ev6⟩;have c36 := H6.out.2.2 w6 ev6.only (cell_at H3.out.2.1 (i := 3) rfl);have H7 := LH (AI hS6 ev6);clear hS6 ev6))
  have HNU := LH (number_is 13 w6 (H6.out.2.2 w6 H7.out.2.only (H3.out.1.cell HG.out.2 (by simp))))
  have hfin : ∀ w7,Only [] w6 w7 → Only [] w w7 := fun w7 o => (Only.transFresh (H3.out.1.trans H6.out.1) H7.out.2.only (fun b hb => Nat.le_trans H3.out.1.size (H6.out.2.1 b hb))).trans o
  have HF := LH hfin
  clear hfin
  have c06 : w6.cell? ⟨W,0,none⟩ = some (.pointer (some ⟨H,0,none⟩)) := cell_at H7.out.1.str rfl
  have hxe := fun w t x => eql_in w t x
  have HB : Hid (∀ w7,Only [] w6 w7 → Calls Tryz.prog 15 #[.pointer (some ⟨H,0,none⟩)] w7 fun e w' => e = .returned (.int .i64 0) ∧ w7 = w') := LH (fun w7 o => by
   have h := hbrought_is H (f6 1) _ w7 (H7.out.1.host.of_only o (fun b _ => by simp))
   rw [HK.out] at h
   exact h)
  by_cases hgt : R < jk
  ·go_wp2_with (first
    | (go_at_call 14;go_loud (refine HNU.out.mono ?_;rintro e w7 ⟨rfl,o7⟩;have c07 := o7.cell c06 (by simp);have H8 := LH o7;clear o7))
    | (go_at_call 15;go_loud (refine (HB.out _ H8.out).mono ?_;rintro e w8 ⟨rfl,rfl⟩)))
   go_ret
   exact ⟨rfl,HF.out _ H8.out⟩
  ·go_wp2_with (go_at_call 14;go_loud (refine HNU.out.mono ?_;rintro e w7 ⟨rfl,o7⟩;have H8 := LH o7;clear o7))
   go_ret
   exact ⟨rfl,HF.out _ H8.out⟩
 ·rw [e0,show errV 0 = .nilIface from rfl] at hrun
  have HR := LH hrun
  have HK := LH hrd
  clear hrun e0 hrd
  have hxe := fun w => eql_nn w
  have hgt : ¬ R < jk := by omega
  go_upto_region 8 with (go_at_call 11;go_loud (refine HR.out.mono ?_;rintro e w6 ⟨rfl,f6,N6,hS6,ev6⟩;have c36 := H6.out.2.2 w6 ev6.only (cell_at H3.out.2.1 (i := 3) rfl);have H7 := LH (AI hS6 ev6);clear hS6 ev6))
  obtain ⟨pr,hpr⟩ : ∃ pr : Int,pr = (M.printOf (oneIm b k) : Int) := ⟨_,rfl⟩
  have e0 : w6.cell? ⟨E,0,none⟩ = some (.string ⟨#[102]⟩) := H6.out.2.2 w6 H7.out.2.only (cell_at H3.out.2.2.1 (i := 0) rfl)
  have e1 : w6.cell? ⟨E,1,none⟩ = some (.int .i64 4096) := H6.out.2.2 w6 H7.out.2.only (cell_at H3.out.2.2.1 (i := 1) rfl)
  have e2 : w6.cell? ⟨E,2,none⟩ = some (.int .i64 k) := H6.out.2.2 w6 H7.out.2.only (cell_at H3.out.2.2.1 (i := 2) rfl)
  have e3 : w6.cell? ⟨E,3,none⟩ = some (.int .u32 pr) := by rw [hpr];exact H6.out.2.2 w6 H7.out.2.only (cell_at H3.out.2.2.1 (i := 3) rfl)
  have e4 : w6.cell? ⟨E,4,none⟩ = some (.int .i64 1) := H6.out.2.2 w6 H7.out.2.only (cell_at H3.out.2.2.1 (i := 4) rfl)
  have i0 : w6.cell? ⟨I,0,none⟩ = some (.slice (some ⟨D,0,none⟩) k 1024) := H6.out.2.2 w6 H7.out.2.only (cell_at H3.out.2.2.2.1 (i := 0) rfl)
  have HH : Hid (∀ w7,Only [] w6 w7 → Calls Tryz.prog 12 #[.pointer (some ⟨W,0,none⟩),.agg #[.string ⟨#[102]⟩,.int .i64 4096,.int .i64 k,.int .u32 pr,.int .i64 1],.slice (some ⟨D,0,none⟩) k 1024] w7 fun e w' => e = .returned (.bool true) ∧ Only [] w7 w') := LH (fun w7 o => by
   have hby : Bytes w6 (some ⟨D,0,none⟩) (oneIm b k) := by
    refine one_bytes b k (by omega) ?_
    have h3 := H6.out.1.heap H3.out.2.2.2.2 (by simp)
    exact H7.out.2.only.heap h3 (fun hm => by have h1 := H6.out.2.1 _ hm;have h2 := heap_lt H3.out.2.2.2.2;omega)
   have h := holds_is [102] 4096 k pr 1 (some ⟨D,0,none⟩) k 1024 (oneIm b k) W H T DW U f6 N6 _ w7 (H7.out.1.of_none o) (hby.of_only o (.inr (fun ad e => by simp))) (oneIm_len b k (by omega)) (by omega) (by omega)
   rw [HK.out] at h
   exact h)
  have hfin : ∀ w7,Only [] w6 w7 → Only [] w w7 := fun w7 o => (Only.transFresh (H3.out.1.trans H6.out.1) H7.out.2.only (fun b hb => Nat.le_trans H3.out.1.size (H6.out.2.1 b hb))).trans o
  have HF := LH hfin
  clear hfin hpr
  go_upto_region 11 with fail
  go_region_held3 (fun w' => w'.cell? ⟨E,0,none⟩ = some (.string ⟨#[102]⟩) ∧ w'.cell? ⟨E,1,none⟩ = some (.int .i64 4096) ∧ w'.cell? ⟨E,2,none⟩ = some (.int .i64 k) ∧ w'.cell? ⟨E,3,none⟩ = some (.int .u32 pr) ∧ w'.cell? ⟨E,4,none⟩ = some (.int .i64 1) ∧ w'.cell? ⟨I,0,none⟩ = some (.slice (some ⟨D,0,none⟩) k 1024)) (first | exact ⟨e0,e1,e2,e3,e4,i0⟩ | exact ⟨o7.cell e0 (by simp),o7.cell e1 (by simp),o7.cell e2 (by simp),o7.cell e3 (by simp),o7.cell e4 (by simp),o7.cell i0 (by simp)⟩ | go_keep) ((go_at_call 12;go_loud (refine (HH.out _ ((Only.refl [] w6).drew)).mono ?_;rintro e w7 ⟨rfl,o7'⟩;have o7 : Only [] w6 w7 := ((Only.refl [] w6).drew).trans o7')))
  rename_i hHeld
  clear hHeld e0 e1 e2 e3 e4 i0
  go_wp2_with fail
  go_ret
  exact ⟨rfl,HF.out _ o7⟩
end Go.Proofs.YtplaamfoeaaaiaaGreatDoor
namespace Go.Proofs.YtplaamfoeaaaiaaGreatDoor.topRoom
open Go.ChangeShapes Go.WideShapes Go.ChangeAt Go.RowKit Go.Deep
theorem contract (H : Type) (enc : TypeId × Value → H) (W : World) (base : Nat) (args : Array Value) (ds gs : List (DataW H)) (before : List MemPlace) (hval : ∀ (j : Nat) t v,Tryz.f4.params[j]? = some t → args[j]? = some v → Value.okWide Tryz.prog W .any base t v) (hW : DataW.Whole enc Tryz.prog Tryz.f4.params.toList Rows.topRoomSpec.vars false W args.toList ds gs before) (hL : laidMetH Tryz.prog lai.laidL W) (hS : W.ShapedOpen Tryz.prog) :
  Calls Tryz.prog 4 args W fun e W' => ∃ v,e = .returned v ∧ Rows.topRoomSpec.post enc Tryz.prog Tryz.f4 false true false false W args v W' := by
 have hg := lai.glob_is hL hS
 have hW' := hW
 obtain ⟨p,q,hA0,hV,rfl,hfz,hnd⟩ := hW
 have hA : DataW.TrodAll enc Tryz.prog W 0 (fun _ => true) true Tryz.f4.params.toList args.toList ds p := hA0
 rw [Tryz.params4] at hA hval
 obtain ⟨v0,vs0,d0,ds0,p0,q0,hargs,rfl,rfl,h0,r0⟩ := trodAll_cons hA
 obtain ⟨v1,vs1,d1,ds1,p1,q1,rfl,rfl,rfl,h1,r1⟩ := trodAll_cons r0
 obtain ⟨v2,vs2,d2,ds2,p2,q2,rfl,rfl,rfl,h2,r2⟩ := trodAll_cons r1
 obtain ⟨v3,vs3,d3,ds3,p3,q3,rfl,rfl,rfl,h3,r3⟩ := trodAll_cons r2
 obtain ⟨rfl,rfl,rfl⟩ := trodAll_nil r3
 obtain rfl : args = #[v0,v1,v2,v3] := by cases args;simp_all
 obtain ⟨rfl,rfl⟩ := trodVars_none hV
 obtain ⟨ba,mb,bc,rfl⟩ := okWide_slice Tryz.underlying22 (hval 0 22 v0 rfl rfl)
 obtain ⟨a1,rfl,rfl,rfl,w1⟩ := open_int Tryz.underlying23 (hval 1 23 v1 rfl rfl) h1
 obtain ⟨a2,rfl,rfl,rfl,w2⟩ := open_int Tryz.underlying5 (hval 2 5 v2 rfl rfl) h2
 obtain ⟨a3,rfl,rfl,rfl,w3⟩ := open_int Tryz.underlying5 (hval 3 5 v3 rfl rfl) h3
 obtain ⟨sz,hs1,rfl⟩ := lrb.u16b w1
 obtain ⟨rm,hs2,rfl⟩ := lrb.u8b w2
 obtain ⟨jk,hs3,rfl⟩ := lrb.u8b w3
 have k0 := h0
 have lt0 : ∀ x ∈ p0,x.block < W.heap.size := by obtain ⟨m,hm⟩ := k0;exact DataW.trod_lt m _ _ _ hm
 obtain ⟨fuel0,h0'⟩ := h0
 obtain ⟨bp,bm,bcp,bs,b1,b2,b3,b4,b5,b6,b7⟩ := lrb.bytes_open (c := .slice ba mb bc) (by simpa [Value.cells] using h0')
 simp only [Value.slice.injEq] at b1
 obtain ⟨rfl,rfl,rfl⟩ := b1
 refine (troom_is ba mb bc bs sz rm jk W b3 (by
  by_cases hb : bs = []
  ·exact .inl hb
  ·exact .inr (fun ad e => b7 ad e hb)) b2 (by unfold maxLen at b5;omega) hs1 hs2 hs3 hg (lrb.handle_of_laid hL)).mono fun e W' ⟨he,ho⟩ => ?_
 have bel := lai.only_below ho
 subst he
 exact ⟨_,rfl,_,_,_,[],_,[],hW',trodAll_mk1 (shut_bool Tryz.underlying4 _),(trodAll_cons_mk (Below.trod lai.laidOut (by kernel_rfl) (of_decide_eq_true (by kernel_rfl)) k0 bel lt0) (trodAll_cons_mk (shut_int Tryz.underlying23 w1) (trodAll_cons_mk (shut_int Tryz.underlying5 w2) (trodAll_cons_mk (shut_int Tryz.underlying5 w3) trodAll_mk0)))),rfl,bel.frame _,fun h => by cases h⟩
abbrev wArgs : Array Value := #[.slice none 0 0,.int .u16 0,.int .u8 0,.int .u8 0]
theorem reads (os : Os) {H : Type} (enc : TypeId × Value → H) : ∃ places,DataW.whole enc Tryz.prog ((lai.laidWorld os).forCall (fun _ _ => 0) ⟨#[],wArgs,[]⟩).memory Tryz.f4.params.toList Rows.topRoomSpec.vars false wArgs.toList 8 = some ([.nil,.lit (.int .u16 0),.lit (.int .u8 0),.lit (.int .u8 0)],[],places) :=
 ⟨[],by kernel_rfl⟩
theorem lifted (os : Os) (started : os.Started) (H : Type) (enc : TypeId × Value → H) (F : Stop.Interp) :
  ReturnsInHanded {} Tryz.checked os 4 .any ((OpenSpec.ofChange Rows.topRoomSpec).preRow enc Tryz.prog Tryz.f4 Rows.topRoomRow.domain false Rows.topRoomRow.laid) (((OpenSpec.ofChange Rows.topRoomSpec).at F).post enc Tryz.prog Tryz.f4 false true false false) := by
 obtain ⟨places,hx⟩ := reads os enc
 refine returnsInHanded_of_row (C := Tryz.checked) (s := OpenSpec.ofChange Rows.topRoomSpec) lai.own started (by kernel_rfl) Tryz.func4 (witness_row_atRef (enc := enc) (C := Tryz.checked) false (lai.laidWorld os) wArgs rfl (by kernel_rfl) (by kernel_rfl) (by kernel_rfl) (OpenSpec.preRow_of_cond 8 hx (by kernel_rfl) (fun k hk => by cases hk) (by kernel_rfl) (lai.laid_met os wArgs))) ?_
 intro W base args ds gs before hval hW _ _ _ hL hS _
 exact contract H enc W base args ds gs before hval hW hL hS
theorem said : Rows.TopRoomSaid :=
 OpenClaim.holds_of_cond 4 Tryz.f4 rfl rfl rfl rfl rfl rfl rfl ⟨rfl,rfl,rfl,rfl,rfl⟩ rfl rfl rfl rfl rfl (by kernel_rfl) Tryz.func4 (by kernel_rfl) (of_decide_eq_true (by kernel_rfl)) (by unfold Func.isWrapper;first | (rw [if_pos (by decide +kernel)];kernel_rfl) | (rw [if_neg (by decide +kernel)];exact ⟨rfl,rfl⟩)) (fun os started H enc _ F => by rw [OpenClaim.pre_eq_preRow];exact lifted os started H enc F)
theorem plain (f : FuncId) (fn : Func) (hf : Tryz.pinned.checked.prog.funcNamed "lifeline/lifelinetop.TopRoom" = some f) (hfn : Tryz.pinned.checked.prog.funcs[f]? = some fn) :
  true = Tryz.pinned.checked.prog.looks [] ∧ ∀ (j : Nat) t,fn.params[j]? = some t → Tryz.pinned.checked.prog.wantsStandIn t = false := by
 obtain rfl : f = 4 := Option.some.inj ((show Tryz.prog.funcNamed "lifeline/lifelinetop.TopRoom" = some 4 by kernel_rfl).symm.trans hf) |>.symm
 obtain rfl : fn = Tryz.f4 := (Option.some.inj (Tryz.func4.symm.trans hfn)).symm
 refine ⟨by kernel_rfl,fun j t ht => ?_⟩
 rw [Tryz.params4] at ht
 have hm : t ∈ [22,23,5,5] := by simpa using Array.mem_of_getElem? ht
 have hall : ([22,23,5,5].all fun u => !Tryz.prog.wantsStandIn u) = true := by kernel_rfl
 exact (show Tryz.prog.wantsStandIn t = false by simpa using List.all_eq_true.1 hall t hm)
theorem proved : Rows.TopRoomCardSaid :=
 Claim7.holds_tied_plain_at .later [] _ _ _ _ said (fun _ h => by cases h) (by kernel_rfl) (fun _ h => by cases h) topRoom_row_tie rfl ⟨rfl,rfl⟩ (by kernel_rfl) rfl plain (by kernel_rfl)
end Go.Proofs.YtplaamfoeaaaiaaGreatDoor.topRoom
