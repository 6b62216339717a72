/- A part of the proofs of the laws of lifelinetop (TopNever, TopLost, TopRoom): contracts of functions that these laws reach. No condition of its own. -/
import Derived.Laws.FloatArith
import Derived.WalkLawsBesides
set_option maxRecDepth 100000
set_option maxHeartbeats 8000000
set_option linter.unusedVariables false
namespace Go.Proofs.YtplaamfoeaaaiaaGreatDoor.M
abbrev B := List UInt8
def str (s : String) : B := s.toUTF8.toList
def checkS (b : B) : UInt8 := b.foldl (fun a c => a + c) 0
def step1 (r : Nat) : Nat := if r &&& 32768 = 0 then (r * 2) % 65536 else ((r * 2) % 65536) ^^^ 4129
def stepN : Nat → Nat → Nat
 | 0,r => r
 | k + 1,r => stepN k (step1 r)
def step (r : Nat) : Nat := stepN 8 r
def crc (b : B) : Nat := b.foldl (fun r c => step (r ^^^ (c.toNat * 256))) 0
def pr1 (p : Nat × Nat) (c : UInt8) : Nat × Nat := ((p.1 + c.toNat) % 65521,(p.2 + (p.1 + c.toNat) % 65521 + 1) % 65521)
def pr (b : B) : Nat × Nat := b.foldl pr1 (0,0)
def printOf (b : B) : Nat := (pr b).2 * 65536 + (pr b).1
def digit (n : Nat) : UInt8 := if n < 10 then UInt8.ofNat (48 + n) else UInt8.ofNat (87 + n)
def digitsF (base : Nat) : Nat → Nat → B → B
 | 0,_,acc => acc
 | f + 1,n,acc => if n < base then digit n :: acc else digitsF base f (n / base) (digit (n % base) :: acc)
def digits (base n : Nat) : B := digitsF base 64 n []
def value (base : Nat) (s : B) : Option Nat :=
 if s = [] then none else s.foldl (fun o c => o.bind fun v =>
  let d := if 48 ≤ c.toNat ∧ c.toNat ≤ 57 then c.toNat - 48 else if 97 ≤ c.toNat ∧ c.toNat ≤ 122 then c.toNat - 87 else 99
  if d < base then some (v * base + d) else none) (some 0)
structure WAct where
 drop : Bool
 turn : UInt8
 insert : Bool
 byte : UInt8
structure Wire where
 acts : List WAct
 n : Nat
 marks : Nat
def Wire.act (w : Wire) : WAct := w.acts.getD w.n ⟨false,0,false,0⟩
def Wire.pass1 (x : B × Wire) (c : UInt8) : B × Wire :=
 let a := x.2.act
 let p := if a.insert then [a.byte] else []
 let q := if a.drop then [] else [c ^^^ a.turn]
 (x.1 ++ p ++ q,{ x.2 with n := x.2.n + 1,marks := x.2.marks + p.length + q.length })
def Wire.pass (w : Wire) (b : B) : B × Wire := b.foldl Wire.pass1 ([],w)
structure Ring where
 cap : Nat
 q : B
 lost : Nat
def Ring.put (r : Ring) (b : B) : Ring :=
 { r with q := r.q ++ b.take (min b.length (r.cap - r.q.length)),lost := r.lost + (b.length - min b.length (r.cap - r.q.length)) }
structure Blk where
 number : UInt8
 data : B
def trailer (d : B) (c : Bool) : B := if c then [UInt8.ofNat (crc d / 256),UInt8.ofNat (crc d)] else [checkS d]
def makeB (b : Blk) (c : Bool) : Option B :=
 if b.data.length = 128 then some ([1,b.number,255 - b.number] ++ b.data ++ trailer b.data c)
 else if b.data.length = 1024 then some ([2,b.number,255 - b.number] ++ b.data ++ trailer b.data c) else none
def sizeB (lead : UInt8) (c : Bool) : Nat := (if lead = 1 then 132 else if lead = 2 then 1028 else 0) + (if c ∧ (lead = 1 ∨ lead = 2) then 1 else 0)
inductive Scan where
 | need | bad | good (b : Blk)
def scan (b : B) (c : Bool) : Scan :=
 match b with
 | [] => .need
 | lead :: _ =>
  let e := sizeB lead c
  if e = 0 then .bad
  else if 2 < b.length ∧ b.getD 1 0 ≠ 255 - b.getD 2 0 then .bad
  else if b.length < e then .need
  else
   let t := if c then 2 else 1
   let d := (b.take (e - t)).drop 3
   if trailer d c ≠ (b.take e).drop (3 + d.length) then .bad else .good ⟨b.getD 1 0,d⟩
def splitF (large : Bool) : Nat → B → List B
 | 0,_ => []
 | f + 1,d =>
  if d = [] then [] else
   let n := if large ∧ 1024 ≤ d.length then 1024 else 128
   let p := d.take (min n d.length)
   (p ++ List.replicate (n - p.length) 26) :: splitF large f (d.drop p.length)
def split (d : B) (large : Bool) : List B := splitF large d.length d
def numberF : Nat → List B → List Blk
 | _,[] => []
 | k,p :: r => ⟨UInt8.ofNat (k + 1),p⟩ :: numberF (k + 1) r
def number (ps : List B) : List Blk := numberF 0 ps
structure Cfg where
 tries : Nat
 wait : Nat
structure Snd where
 cfg : Cfg
 blocks : List Blk
 close : Bool
 crc : Bool
 phase : Nat
 at_ : Nat
 tries : Nat
 left : Nat
 can : Bool
 err : Nat
def Cfg.fit (c : Cfg) : Cfg := ⟨max 1 (min c.tries 9),max 1 (min c.wait 99)⟩
def sndOf (c : Cfg) (bs : List Blk) (crc close : Bool) : Snd := ⟨c.fit,bs,close,crc,0,0,1,c.fit.wait,false,0⟩
def Snd.done (s : Snd) : Bool := s.phase == 3
def Snd.end_ (s : Snd) (e : Nat) : B × Snd := (if e = 10 then [24,24] else [],{ s with phase := 3,err := e })
def Snd.now (s : Snd) : B × Snd :=
 if s.phase = 1 then
  match (s.blocks[s.at_]?).bind (makeB · s.crc) with
  | some b => (b,s)
  | none => s.end_ 14
 else if s.phase = 2 then ([4],s) else ([],s)
def Snd.next (s : Snd) : B × Snd :=
 let s := { s with tries := 1,left := s.cfg.wait }
 if s.at_ < s.blocks.length then { s with phase := 1 }.now
 else if s.close ∧ s.phase ≠ 2 then { s with phase := 2 }.now
 else s.end_ 0
def Snd.again (s : Snd) : B × Snd :=
 if s.cfg.tries ≤ s.tries then s.end_ 10 else { s with tries := s.tries + 1,left := s.cfg.wait }.now
def Snd.put (s : Snd) (c : UInt8) : B × Snd :=
 let twice := s.can && c == 24
 let s := { s with can := c == 24 }
 if s.phase = 3 then ([],s)
 else if twice then s.end_ 9
 else if s.phase = 0 ∧ (c = 21 ∨ c = 67 ∧ s.crc = true) then { s with crc := c == 67 }.next
 else if s.phase = 0 then ([],s)
 else if c = 6 then { s with at_ := if s.phase = 1 then s.at_ + 1 else s.at_ }.next
 else if c = 21 then s.again
 else ([],s)
def Snd.tick (s : Snd) : B × Snd :=
 if s.phase = 3 then ([],s)
 else
  let s := { s with left := s.left - 1 }
  if 0 < s.left then ([],s) else s.again
structure Rcv where
 crc : Bool
 wait : Nat
 tries : Nat
 left : Nat
 number : UInt8
 begun : Bool
 close : Bool
 buffer : B
 data : B
 blocks : Nat
 want : Nat
 over : Bool
 err : Nat
def rcvOf (c : Cfg) (number : UInt8) (crc close : Bool) (many : Nat) : Rcv :=
 ⟨crc,c.fit.wait,c.fit.tries,1,number,false,close,[],[],0,max 1 many,false,0⟩
def Rcv.end_ (r : Rcv) (e : Nat) (out : B) : B × Rcv := (out,{ r with over := true,err := e })
def Rcv.ask (r : Rcv) : UInt8 := if r.crc && !r.begun then 67 else 21
def Rcv.take (r : Rcv) (x : Blk) : B × Rcv :=
 let go (r : Rcv) : B × Rcv := if !r.close && r.blocks == r.want then r.end_ 0 [6] else ([6],r)
 if x.number = r.number then go { r with data := r.data ++ x.data,number := r.number + 1,blocks := r.blocks + 1,begun := true }
 else if r.begun = false ∨ x.number ≠ r.number - 1 then r.end_ 14 [24,24]
 else go r
def Rcv.put (r : Rcv) (b : B) : B × Rcv :=
 if r.over ∨ b = [] then ([],r)
 else
  let r := { r with left := r.wait,buffer := r.buffer ++ b }
  let first := r.buffer.getD 0 0
  if first = 4 ∧ r.close = true then r.end_ 0 [6]
  else if first = 24 ∧ 1 < r.buffer.length ∧ r.buffer.getD 1 0 = 24 then r.end_ 9 []
  else if first = 24 ∧ r.buffer.length = 1 then ([],r)
  else match scan r.buffer r.crc with
   | .need => ([],r)
   | .bad => ([21],{ r with buffer := [] })
   | .good x => { r with buffer := [] }.take x
def Rcv.tick (r : Rcv) : B × Rcv :=
 if r.over then ([],r)
 else
  let r := { r with left := r.left - 1 }
  if 0 < r.left then ([],r)
  else
   let r := { r with left := r.wait,buffer := [] }
   if !r.begun && r.tries == 0 then r.end_ 10 [24,24]
   else
    let r := if r.begun then r else { r with tries := r.tries - 1 }
    ([r.ask],r)
def headerMake (name : B) (size : Nat) : B :=
 let t := name ++ [0] ++ digits 10 size ++ [32] ++ digits 8 0 ++ [32] ++ digits 8 0
 (t ++ List.replicate (128 - t.length) 0).take 128
def headerEmpty : B := List.replicate 128 0
def cutAt (c : UInt8) : B → B × B
 | [] => ([],[])
 | x :: r => if x = c then ([],r) else ((x :: (cutAt c r).1),(cutAt c r).2)
def trimR (s : B) : B := (s.reverse.dropWhile (· == 0)).reverse
def splitOn (c : UInt8) : B → List B
 | [] => [[]]
 | x :: r => if x = c then [] :: splitOn c r else match splitOn c r with
  | [] => [[x]]
  | p :: q => (x :: p) :: q
def headerRead (d : B) : Option Nat :=
 if d.length ≠ 128 then none else
  match splitOn 32 (trimR (cutAt 0 d).2) with
  | [a,b,c] => do
   let x ← value 10 a
   let y ← value 8 b
   let z ← value 8 c
   if digits 10 x = a ∧ digits 8 y = b ∧ digits 8 z = c ∧ x ≤ 8192 then some x else none
  | _ => none
structure BSnd where
 part : Snd
 rest : List Snd
 err : Nat
 over : Bool
def bsndOf (c : Cfg) (name bytes : B) : BSnd :=
 ⟨sndOf c [⟨0,headerMake name bytes.length⟩] true false,[sndOf c (number (split bytes true)) true true,sndOf c [⟨0,headerEmpty⟩] true false],0,false⟩
def BSnd.after (s : BSnd) (x : B × Snd) : B × BSnd :=
 let s := { s with part := x.2 }
 (x.1,if s.part.done = false then s
  else if s.part.err ≠ 0 then { s with over := true,err := s.part.err }
  else match s.rest with
   | [] => { s with over := true,err := 0 }
   | p :: r => { s with part := p,rest := r })
def BSnd.put (s : BSnd) (c : UInt8) : B × BSnd := if s.over then ([],s) else s.after (s.part.put c)
def BSnd.tick (s : BSnd) : B × BSnd := if s.over then ([],s) else s.after s.part.tick
structure BRcv where
 cfg : Cfg
 part : Rcv
 stage : Nat
 size : Nat
 data : B
 over : Bool
 err : Nat
def brcvOf (c : Cfg) : BRcv := ⟨c,rcvOf c 0 true false 1,0,0,[],false,0⟩
def BRcv.after (r : BRcv) (x : B × Rcv) : B × BRcv :=
 let r := { r with part := x.2 }
 (x.1,if r.part.over = false then r
  else if r.part.err ≠ 0 then { r with over := true,err := r.part.err }
  else
   let got := r.part.data
   let r := { r with stage := r.stage + 1 }
   if r.stage = 1 then
    match headerRead got with
    | none => { r with over := true,err := 14 }
    | some n => { r with size := n,part := rcvOf r.cfg 1 true true 1 }
   else if r.stage = 2 then
    if got.length < r.size then { r with over := true,err := 13 }
    else { r with data := got.take r.size,part := rcvOf r.cfg 0 true false 1 }
   else if got.length = 128 ∧ got.getD 0 0 = 0 then { r with over := true } else { r with over := true,err := 14 })
def BRcv.put (r : BRcv) (b : B) : B × BRcv := if r.over then ([],r) else r.after (r.part.put b)
def BRcv.tick (r : BRcv) : B × BRcv := if r.over then ([],r) else r.after r.part.tick
inductive Taker where
 | none
 | one (r : Rcv)
 | batch (r : BRcv)
structure Board where
 cfg : Cfg
 asleep : Bool
 line : B
 taker : Taker
 addr : Nat
 store : Nat → UInt8
def prompt : B := [61,62,32]
def ways : List B := [str "check",str "crc",str "large",str "batch"]
def lineOf (addr size print : Nat) : B := str "sum " ++ digits 16 addr ++ [32] ++ digits 16 size ++ [32] ++ digits 16 print ++ [13,10]
def loadOf (way addr : Nat) : B := str "load " ++ ways.getD (min way 3) [] ++ [32] ++ digits 16 addr ++ [13]
def askOf (addr size : Nat) : B := str "sum " ++ digits 16 addr ++ [32] ++ digits 16 size ++ [13]
def hexOf (s : B) : Option Nat := (value 16 s).bind fun n => if digits 16 n = s ∧ n < 4294967296 then some n else none
def fits (addr n : Nat) : Bool := addr ≤ 16384 && n ≤ 16384 - addr
def Board.read (t : Board) (addr n : Nat) : B := (List.range n).map fun k => t.store (addr + k)
def Board.does (t : Board) (line : B) : B × Board :=
 match splitOn 32 line with
 | [a,b,c] =>
  if a = str "load" ∧ (hexOf c).isSome ∧ b ∈ ways then
   ([],{ t with addr := (hexOf c).getD 0,taker := if b = str "batch" then .batch (brcvOf t.cfg) else .one (rcvOf t.cfg 1 (b != str "check") true 1) })
  else
   match hexOf b,hexOf c with
   | some x,some y => if a = str "sum" ∧ fits x y then (lineOf x y (printOf (t.read x y)) ++ prompt,t) else (str "?\r\n" ++ prompt,t)
   | _,_ => (str "?\r\n" ++ prompt,t)
 | _ => if line = [] then ([13,10] ++ prompt,t) else (str "?\r\n" ++ prompt,t)
def Board.loaded (t : Board) (out : B) : B × Board :=
 let fin (e : Nat) (d : B) : B × Board :=
  if e = 0 ∧ fits t.addr d.length then (out ++ [13,10] ++ prompt,{ t with taker := .none,store := fun k => if t.addr ≤ k ∧ k < t.addr + d.length then d.getD (k - t.addr) 0 else t.store k })
  else (out ++ [33,13,10] ++ prompt,{ t with taker := .none })
 match t.taker with
 | .none => (out,t)
 | .one r => if r.over then fin r.err r.data else (out,t)
 | .batch r => if r.over then fin r.err r.data else (out,t)
def Board.taken (t : Board) (b : B) : B × Board :=
 match t.taker with
 | .none => ([],t)
 | .one r => let x := r.put b;{ t with taker := .one x.2 }.loaded x.1
 | .batch r => let x := r.put b;{ t with taker := .batch x.2 }.loaded x.1
def Board.put1 (t : Board) (c : UInt8) : B × Board :=
 if t.asleep then ([13,10] ++ prompt,{ t with asleep := false })
 else if c = 13 then { t with line := [] }.does t.line
 else ([],{ t with line := if t.line.length < 80 then t.line ++ [c] else t.line })
def Board.isTaking (t : Board) : Bool := match t.taker with
 | .none => false
 | _ => true
def Board.puts (t : Board) (out : B) : B → B × Board
 | [] => (out,t)
 | c :: r => if t.isTaking then (let x := t.taken (c :: r);(out ++ x.1,x.2)) else (let x := t.put1 c;Board.puts x.2 (out ++ x.1) r)
def Board.put (t : Board) (b : B) : B × Board := if t.isTaking then t.taken b else t.puts [] b
def Board.tick (t : Board) : B × Board :=
 match t.taker with
 | .none => ([],t)
 | .one r => let x := r.tick;{ t with taker := .one x.2 }.loaded x.1
 | .batch r => let x := r.tick;{ t with taker := .batch x.2 }.loaded x.1
structure Watch where
 lits : List B
 ats : List (List Bool)
 over : Bool
def watchOf (ls : List B) : Watch := ⟨ls,ls.map fun _ => [],false⟩
def stepW (l : B) (at_ : List Bool) (c : UInt8) : List Bool := (List.range l.length).map fun k => l.getD k 0 == c && (k == 0 || at_.getD (k - 1) false)
def Watch.put (w : Watch) (c : UInt8) : Option Nat × Watch :=
 if w.over then (none,w)
 else
  let ats := (w.lits.zip w.ats).map fun x => stepW x.1 x.2 c
  match ats.findIdx? fun a => a.getLast?.getD false with
  | none => (none,{ w with ats := ats })
  | some k => (some k,{ w with ats := ats,over := true })
inductive Giver where
 | none
 | one (s : Snd)
 | batch (s : BSnd)
structure Entry where
 name : B
 addr : Nat
 size : Nat
 print : Nat
 way : Nat
structure Host where
 cfg : Cfg
 tries : Nat
 es : List Entry
 images : List B
 phase : Nat
 k : Nat
 up : Nat
 playW : Watch
 playLeft : Nat
 playTries : Nat
 playState : Nat
 giver : Giver
 watch : Watch
 left : Nat
 ring : Ring
 heard : Nat
 out : B
 err : Nat
def Host.send (h : Host) (b : B) : Host := { h with out := h.out ++ b }
def Host.end_ (h : Host) (e : Nat) : Host := { h with phase := 7,err := e }
def Host.wait_ (h : Host) (p : Nat) (ls : List B) : Host := { h with phase := p,watch := watchOf ls,left := 4 * max 1 (min h.cfg.wait 99) }
def Host.load (h : Host) : Host :=
 match h.es[h.k]?,h.images[h.k]? with
 | some e,some im =>
  let h := { h.send (loadOf e.way e.addr) with phase := 1 }
  if e.way = 3 then { h with giver := .batch (bsndOf h.cfg e.name im) }
  else { h with giver := .one (sndOf h.cfg (number (split im (e.way == 2))) (e.way != 0) true) }
 | _,_ => h
def Host.woken (h : Host) : Host := if h.playState = 1 then h.load else if h.playState = 2 then h.end_ 11 else h
def Host.again (h : Host) (e : Nat) : Host :=
 let h := { h with up := h.up + 1 }
 if h.tries ≤ h.up then h.end_ e else { h with phase := 5,left := 2 * max 1 (min h.cfg.wait 99) }
def Host.sent (h : Host) : Host :=
 let fin (over : Bool) (e : Nat) : Host := if over = false then h else if e ≠ 0 then h.again e else h.wait_ 2 [prompt]
 match h.giver with
 | .none => h
 | .one s => fin s.done s.err
 | .batch s => fin s.over s.err
def Host.next (h : Host) : Host :=
 let h := { h with k := h.k + 1,up := 0 }
 if h.k = h.es.length then h.end_ 0 else h.load
def Host.met (h : Host) (arm : Nat) : Host :=
 match h.es[h.k]? with
 | none => h
 | some e =>
  if h.phase = 6 then h.load
  else if h.phase = 2 then (h.send (askOf e.addr e.size)).wait_ 3 [lineOf e.addr e.size e.print,prompt]
  else if h.phase = 3 then (if 0 < arm then h.again 12 else h.wait_ 4 [prompt])
  else if h.phase = 4 then h.next
  else h
def Host.take (h : Host) (c : UInt8) : Host :=
 let h := { h with heard := h.heard + 1 }
 if h.phase = 7 ∨ h.phase = 5 then h
 else if h.phase = 0 then
  (if h.playState ≠ 0 then h.woken else
   match h.playW.put c with
   | (none,w) => { h with playW := w }.woken
   | (some _,w) => { h with playW := w,playState := 1 }.woken)
 else if h.phase = 1 then
  (match h.giver with
  | .none => h
  | .one s => let x := s.put c;({ h with giver := .one x.2 }.send x.1).sent
  | .batch s => let x := s.put c;({ h with giver := .batch x.2 }.send x.1).sent)
 else match h.watch.put c with
  | (none,w) => { h with watch := w }
  | (some k,w) => { h with watch := w }.met k
def Host.late (h : Host) : Host :=
 let h := { h with left := h.left - 1 }
 if 0 < h.left then h
 else if h.phase = 5 then (h.send [13]).wait_ 6 [prompt]
 else h.again 11
def Host.tick (h : Host) : Host :=
 let h := h.ring.q.foldl Host.take { h with ring := { h.ring with q := [] } }
 if h.phase = 7 then h
 else if h.phase = 0 then
  (if h.playState ≠ 0 then h.woken else
   let h := { h with playLeft := h.playLeft - 1 }
   if 0 < h.playLeft then h.woken
   else if h.playTries < 5 then ({ h with playTries := h.playTries + 1,playW := watchOf [prompt],playLeft := 8 }.send [13]).woken
   else { h with playState := 2 }.woken)
 else if h.phase = 1 then
  (match h.giver with
  | .none => h
  | .one s => let x := s.tick;({ h with giver := .one x.2 }.send x.1).sent
  | .batch s => let x := s.tick;({ h with giver := .batch x.2 }.send x.1).sent)
 else h.late
def Host.put (h : Host) (b : B) : Host :=
 let h := { h with ring := h.ring.put b }
 if 0 < h.ring.lost ∧ h.phase ≠ 7 then h.end_ 13 else h
structure Sys where
 host : Host
 board : Board
 down : Wire
 up : Wire
 ticks : Nat
def Sys.say (s : Sys) (b : B) : Sys :=
 let x := s.up.pass b
 { s with up := x.2,host := if x.1 = [] then s.host else s.host.put x.1 }
def Sys.tick (s : Sys) : Sys :=
 let h := s.host.tick
 let d := s.down.pass h.out
 let s := { s with ticks := s.ticks + 1,host := { h with out := [] },down := d.2 }
 let s := if d.1 = [] then s else (let x := s.board.put d.1;{ s with board := x.2 }.say x.1)
 let x := s.board.tick
 { s with board := x.2 }.say x.1
def Sys.run : Nat → Sys → Sys
 | 0,s => s
 | k + 1,s => if s.host.phase = 7 then s else Sys.run k s.tick
def dataOf (b : B) : B := (List.range 1024).map fun k => if b.length = 0 then 0 else b.getD (k % b.length) 0 + UInt8.ofNat (k / b.length)
def imageOf (b : B) (size k : Nat) : B :=
 match (dataOf b).take size with
 | [] => []
 | x :: r => (x + UInt8.ofNat k) :: r
end Go.Proofs.YtplaamfoeaaaiaaGreatDoor.M
namespace Go.Proofs.YtplaamfoeaaaiaaGreatDoor
open Ieee
def Whole (d : Datum) (n : Nat) : Prop := ∃ e : Nat,e ≤ 1074 ∧ d = .number false (n * 2 ^ e) (-(e : Int))
theorem log2_mul_pow (n e : Nat) (h : n ≠ 0) : (n * 2 ^ e).log2 = n.log2 + e := by
 have hm : n * 2 ^ e ≠ 0 := Nat.mul_ne_zero h (Nat.ne_of_gt (Nat.pow_pos (by decide)))
 rw [Nat.log2_eq_iff hm]
 have h1 := Nat.log2_self_le h
 have h2 := Nat.lt_log2_self (n := n)
 constructor
 ·rw [Nat.pow_add];exact Nat.mul_le_mul_right _ h1
 ·rw [show n.log2 + e + 1 = (n.log2 + 1) + e by omega,Nat.pow_add]
  exact Nat.mul_lt_mul_of_pos_right h2 (Nat.pow_pos (by decide))
theorem cut_whole (way : Toward) (n e : Nat) : way.cut false (n * 2 ^ e) e = n := by
 unfold Toward.cut
 by_cases h : n = 0
 ·subst h
  cases way <;> simp [Nat.shiftLeft_eq] <;> exact Nat.pow_pos (by decide)
 ·have hm : min e ((n * 2 ^ e).log2 + 2) = e := by rw [log2_mul_pow n e h];omega
  have hp : 0 < 2 ^ e := Nat.pow_pos (by decide)
  have hd : n * 2 ^ e / 2 ^ e = n := Nat.mul_div_cancel _ hp
  have hr : n * 2 ^ e % 2 ^ e = 0 := Nat.mul_mod_left _ _
  rw [hm]
  cases way <;> simp [Nat.shiftLeft_eq,hd,hr] <;> omega
def rungOf (n : Nat) : Nat := (n.log2 + 1022) * 4503599627370496 + n * 2 ^ (52 - n.log2)
theorem log2_lt_53 (n : Nat) (h : n < 9007199254740992) : n.log2 < 53 := by
 by_cases h0 : n = 0
 ·subst h0;decide
 ·exact (Nat.log2_lt h0).2 (by simpa using h)
theorem signif (n : Nat) (h0 : n ≠ 0) (h : n < 9007199254740992) : 4503599627370496 ≤ n * 2 ^ (52 - n.log2) ∧ n * 2 ^ (52 - n.log2) < 9007199254740992 := by
 have hl := log2_lt_53 n h
 have h1 := Nat.log2_self_le h0
 have h2 := Nat.lt_log2_self (n := n)
 have hp : 0 < 2 ^ (52 - n.log2) := Nat.pow_pos (by decide)
 constructor
 ·have : 2 ^ n.log2 * 2 ^ (52 - n.log2) ≤ n * 2 ^ (52 - n.log2) := Nat.mul_le_mul_right _ h1
  rw [← Nat.pow_add,show n.log2 + (52 - n.log2) = 52 by omega] at this
  simpa using this
 ·have : n * 2 ^ (52 - n.log2) < 2 ^ (n.log2 + 1) * 2 ^ (52 - n.log2) := Nat.mul_lt_mul_of_pos_right h2 hp
  rw [← Nat.pow_add,show n.log2 + 1 + (52 - n.log2) = 53 by omega] at this
  simpa using this
theorem leastPlace_double : double.leastPlace = -1074 := by decide
theorem binade_double : double.binade = 4503599627370496 := by decide
theorem infRung_double : double.infRung = 9218868437227405312 := by decide
theorem signWeight_double : double.signWeight = 9223372036854775808 := by decide
theorem fractionBits_double : double.fractionBits = 52 := rfl
theorem write_whole {d : Datum} {n : Nat} (hd : Whole d n) (h0 : n ≠ 0) (h : n < 9007199254740992) : double.write d = rungOf n := by
 obtain ⟨e,he,rfl⟩ := hd
 have hl := log2_lt_53 n h
 have hs := signif n h0 h
 have hm : n * 2 ^ e ≠ 0 := Nat.mul_ne_zero h0 (Nat.ne_of_gt (Nat.pow_pos (by decide)))
 have hlast : max (-(e : Int) + ((n * 2 ^ e).log2 : Nat) - (52 : Nat)) (-1074) = (n.log2 : Int) - 52 := by
  rw [log2_mul_pow n e h0];omega
 have hkept : Toward.even.cut false ((n * 2 ^ e) <<< (-(e : Int) - ((n.log2 : Int) - 52)).toNat) ((n.log2 : Int) - 52 - -(e : Int)).toNat = n * 2 ^ (52 - n.log2) := by
  by_cases c : e + n.log2 ≤ 52
  ·have e1 : (-(e : Int) - ((n.log2 : Int) - 52)).toNat = 52 - n.log2 - e := by omega
   have e2 : ((n.log2 : Int) - 52 - -(e : Int)).toNat = 0 := by omega
   rw [e1,e2,Nat.shiftLeft_eq]
   have := cut_whole .even (n * 2 ^ e * 2 ^ (52 - n.log2 - e)) 0
   rw [Nat.pow_zero,Nat.mul_one] at this
   rw [this,Nat.mul_assoc,← Nat.pow_add,show e + (52 - n.log2 - e) = 52 - n.log2 by omega]
  ·have e1 : (-(e : Int) - ((n.log2 : Int) - 52)).toNat = 0 := by omega
   have e2 : ((n.log2 : Int) - 52 - -(e : Int)).toNat = e + n.log2 - 52 := by omega
   rw [e1,e2,Nat.shiftLeft_eq,Nat.pow_zero,Nat.mul_one]
   have := cut_whole .even (n * 2 ^ (52 - n.log2)) (e + n.log2 - 52)
   rw [Nat.mul_assoc,← Nat.pow_add,show 52 - n.log2 + (e + n.log2 - 52) = e by omega] at this
   exact this
 show double.nearest false (n * 2 ^ e) (-(e : Int)) = _
 unfold Format.nearest
 rw [if_neg hm,leastPlace_double,fractionBits_double,binade_double,infRung_double,hlast]
 simp only [hkept]
 unfold Format.word rungOf
 have e3 : ((n.log2 : Int) - 52 - -1074).toNat = n.log2 + 1022 := by omega
 rw [e3]
 simp only [Bool.false_eq_true,if_false]
 have : (n.log2 + 1022) * 4503599627370496 ≤ 1074 * 4503599627370496 := Nat.mul_le_mul_right _ (by omega)
 omega
theorem fl_eq (n : Nat) : floatOfInt .f64 (n : Int) = double.write (.number false n 0) := by
 unfold floatOfInt FloatKind.nearest FloatKind.encode
 have : decide ((n : Int) < 0) = false := by simp
 rw [this];rfl
theorem whole_self (n : Nat) : Whole (.number false n 0) n := ⟨0,by omega,by simp⟩
theorem fl_rung (n : Nat) (h0 : n ≠ 0) (h : n < 9007199254740992) : floatOfInt .f64 (n : Int) = rungOf n := by
 rw [fl_eq];exact write_whole (whole_self n) h0 h
theorem fl_zero : floatOfInt .f64 (0 : Int) = 0 := by decide
theorem read_fl (n : Nat) (h : n < 9007199254740992) : Whole (double.read (floatOfInt .f64 (n : Int))) n := by
 by_cases h0 : n = 0
 ·subst h0
  obtain ⟨k,hk⟩ : ∃ k : Nat,k = 1074 := ⟨_,rfl⟩
  refine ⟨k,by omega,?_⟩
  rw [show ((0 : Nat) : Int) = 0 from rfl,fl_zero,Nat.zero_mul,hk];decide
 ·have hl := log2_lt_53 n h
  have hs := signif n h0 h
  rw [fl_rung n h0 h]
  refine ⟨52 - n.log2,by omega,?_⟩
  have hb : rungOf n < 9218868437227405312 := by
   unfold rungOf
   have : (n.log2 + 1022) * 4503599627370496 ≤ 1074 * 4503599627370496 := Nat.mul_le_mul_right _ (by omega)
   omega
  have hge : 4503599627370496 ≤ rungOf n := by unfold rungOf;omega
  have hdiv : rungOf n / 4503599627370496 = n.log2 + 1023 := by unfold rungOf;omega
  have hmod : 4503599627370496 + rungOf n % 4503599627370496 = n * 2 ^ (52 - n.log2) := by unfold rungOf;omega
  unfold Format.read
  rw [signWeight_double,binade_double,infRung_double,leastPlace_double]
  have e1 : rungOf n % 9223372036854775808 = rungOf n := Nat.mod_eq_of_lt (by omega)
  have e2 : rungOf n / 9223372036854775808 = 0 := Nat.div_eq_of_lt (by omega)
  simp only [e1,e2,hdiv,hmod]
  rw [if_neg (by omega),if_pos hb]
  have e3 : (-1074 : Int) + ((n.log2 + 1023 - 1 : Nat) : Int) = -((52 - n.log2 : Nat) : Int) := by omega
  rw [e3];rfl
theorem signed_false (m k : Nat) : signed false m k = ((m * 2 ^ k : Nat) : Int) := by
 unfold signed;simp [Nat.shiftLeft_eq]
theorem sum_whole {d d' : Datum} {n m : Nat} (hd : Whole d n) (hd' : Whole d' m) : ∃ r,d.sum d' = some r ∧ Whole r (n + m) := by
 obtain ⟨e,he,rfl⟩ := hd
 obtain ⟨e',he',rfl⟩ := hd'
 simp only [Datum.sum,signed_false]
 refine ⟨_,rfl,max e e',by omega,?_⟩
 have hb : min (-(e : Int)) (-(e' : Int)) = -((max e e' : Nat) : Int) := by omega
 rw [hb]
 have e1 : (-(e : Int) - -((max e e' : Nat) : Int)).toNat = max e e' - e := by omega
 have e2 : (-(e' : Int) - -((max e e' : Nat) : Int)).toNat = max e e' - e' := by omega
 rw [e1,e2,Nat.mul_assoc,Nat.mul_assoc,← Nat.pow_add,← Nat.pow_add,show e + (max e e' - e) = max e e' by omega,show e' + (max e e' - e') = max e e' by omega]
 rw [← Int.natCast_add,← Nat.add_mul,Int.natAbs_natCast]
 have hn : ¬ ((((n + m) * 2 ^ max e e' : Nat) : Int) < 0) := by omega
 have hb : (if (((n + m) * 2 ^ max e e' : Nat) : Int) = 0 then (false && false) else decide ((((n + m) * 2 ^ max e e' : Nat) : Int) < 0)) = false := by
  rw [decide_eq_false hn];simp
 rw [hb]
theorem pow_pos2 (k : Nat) : 0 < 2 ^ k := Nat.pow_pos (by decide)
theorem order_whole {d d' : Datum} {n m : Nat} (hd : Whole d n) (hd' : Whole d' m) : d.order d' = some (if n < m then .lt else if n = m then .eq else .gt) := by
 obtain ⟨e,he,rfl⟩ := hd
 obtain ⟨e',he',rfl⟩ := hd'
 simp only [Datum.order,signed_false]
 have hb : min (-(e : Int)) (-(e' : Int)) = -((max e e' : Nat) : Int) := by omega
 rw [hb]
 have e1 : (-(e : Int) - -((max e e' : Nat) : Int)).toNat = max e e' - e := by omega
 have e2 : (-(e' : Int) - -((max e e' : Nat) : Int)).toNat = max e e' - e' := by omega
 rw [e1,e2,Nat.mul_assoc,Nat.mul_assoc,← Nat.pow_add,← Nat.pow_add,show e + (max e e' - e) = max e e' by omega,show e' + (max e e' - e') = max e e' by omega]
 congr 1
 have hp := pow_pos2 (max e e')
 show compareOfLessAndEq _ _ = _
 unfold compareOfLessAndEq
 rcases Nat.lt_trichotomy n m with h | h | h
 ·have : n * 2 ^ max e e' < m * 2 ^ max e e' := Nat.mul_lt_mul_of_pos_right h hp
  rw [if_pos (by omega),if_pos h]
 ·subst h
  rw [if_neg (by omega),if_pos rfl,if_neg (by omega),if_pos rfl]
 ·have : m * 2 ^ max e e' < n * 2 ^ max e e' := Nat.mul_lt_mul_of_pos_right h hp
  rw [if_neg (by omega),if_neg (by omega),if_neg (by omega),if_neg (by omega)]
theorem toInt_whole {d : Datum} {n : Nat} (hd : Whole d n) : d.toInt .zero = some (n : Int) := by
 obtain ⟨e,he,rfl⟩ := hd
 simp only [Datum.toInt,Datum.integral]
 have e1 : (-(e : Int)).toNat = 0 := by omega
 have e2 : (- -(e : Int)).toNat = e := by omega
 rw [e1,e2,Nat.shiftLeft_zero,cut_whole,signed_false]
 simp
theorem add_fl (a b : Int) (ha : 0 ≤ a) (hb : 0 ≤ b) (h : a + b < 9007199254740992) :
  floatBits .add .f64 (floatOfInt .f64 a) (floatOfInt .f64 b) = some (floatOfInt .f64 (a + b)) := by
 obtain ⟨n,rfl⟩ := Int.eq_ofNat_of_zero_le ha
 obtain ⟨m,rfl⟩ := Int.eq_ofNat_of_zero_le hb
 have hn := read_fl n (by omega)
 have hm := read_fl m (by omega)
 obtain ⟨r,hr,hw⟩ := sum_whole hn hm
 show (((double.read _).sum (double.read _)).map double.write) = _
 rw [hr,← Int.natCast_add]
 simp only [Option.map_some]
 congr 1
 by_cases h0 : n + m = 0
 ·have e1 : n = 0 := by omega
  have e2 : m = 0 := by omega
  subst e1;subst e2
  have : (double.read (floatOfInt .f64 ((0 : Nat) : Int))).sum (double.read (floatOfInt .f64 ((0 : Nat) : Int))) = some (.number false 0 (-1074)) := by decide
  rw [this] at hr
  cases hr
  decide
 ·rw [write_whole hw h0 (by omega),fl_rung _ h0 (by omega)]
theorem order_fl (a b : Int) (ha : 0 ≤ a) (hb : 0 ≤ b) (h : a < 9007199254740992) (h' : b < 9007199254740992) :
  double.order (floatOfInt .f64 a) (floatOfInt .f64 b) = some (if a < b then .lt else if a = b then .eq else .gt) := by
 obtain ⟨n,rfl⟩ := Int.eq_ofNat_of_zero_le ha
 obtain ⟨m,rfl⟩ := Int.eq_ofNat_of_zero_le hb
 show (double.read _).order (double.read _) = _
 rw [order_whole (read_fl n (by omega)) (read_fl m (by omega))]
 simp only [Int.ofNat_lt,Int.ofNat_inj]
theorem cut_fl (a : Int) (ha : 0 ≤ a) (h : a < 9007199254740992) : floatToIntVal .f64 (floatOfInt .f64 a) .i64 = some a := by
 obtain ⟨n,rfl⟩ := Int.eq_ofNat_of_zero_le ha
 unfold floatToIntVal
 show (match (double.read _).toInt .zero with | some n => _ | none => _) = _
 rw [toInt_whole (read_fl n (by omega))]
 simp only
 rw [if_pos]
 have e1 : IntKind.i64.min = -9223372036854775808 := by decide
 have e2 : IntKind.i64.max = 9223372036854775807 := by decide
 rw [e1,e2];omega
theorem neg_fl (a : Int) (ha : 0 ≤ a) (h : a < 9007199254740992) : (double.read (floatOfInt .f64 a)).neg = false := by
 obtain ⟨n,rfl⟩ := Int.eq_ofNat_of_zero_le ha
 obtain ⟨e,_,he⟩ := read_fl n (by omega)
 rw [he];rfl
end Go.Proofs.YtplaamfoeaaaiaaGreatDoor
