/- The disk as plain data: its state, and what each of its methods does to the state. No program in sight. -/
import GoSem.ClaimWide
namespace Go.Proofs.Ytigcokgjikkohaa.Pd
open Go (bytesBefore)

abbrev Names := List (ByteArray × Nat)
def nbef (a b : ByteArray) : Bool := bytesBefore a.data.toList b.data.toList
def find (l : Names) (k : ByteArray) : Option Nat := (l.find? fun p => decide (p.1 = k)).map (·.2)
def del (l : Names) (k : ByteArray) : Names := l.filter fun p => !decide (p.1 = k)
def ins (x : ByteArray × Nat) : Names → Names
  | [] => [x]
  | y :: r => if nbef x.1 y.1 then x :: y :: r else y :: ins x r
def put (l : Names) (k : ByteArray) (i : Nat) : Names := ins (k, i) (del l k)

structure PFile where
  data : ByteArray
  dur : Nat
  deriving DecidableEq

inductive PChange where
  | set (name : ByteArray) (f : Nat)
  | rem (name : ByteArray)
  | ren (src dst : ByteArray) (f : Nat)
  deriving DecidableEq

def PChange.on (l : Names) : PChange → Names
  | .set n f => put l n f
  | .rem n => del l n
  | .ren s d f => put (del l s) d f

structure PD where
  cap : Nat
  files : List PFile
  names : Names
  durable : Names
  pending : List PChange
  limit : Option Nat
  down : Bool

def PD.new (cap : Nat) : PD := { cap, files := [], names := [], durable := [], pending := [], limit := none, down := false }
def fileAt (fs : List PFile) (k : Nat) : PFile := fs.getD k ⟨ByteArray.empty, 0⟩
def usedBy (fs : List PFile) (l : Names) : Nat := (l.map fun e => (fileAt fs e.2).data.size).sum
def PD.used (s : PD) : Nat := usedBy s.files s.names

def okChar (c : UInt8) : Bool := (decide (97 ≤ c.toNat) && decide (c.toNat ≤ 122)) || (decide (48 ≤ c.toNat) && decide (c.toNat ≤ 57)) || decide (c.toNat = 46) || decide (c.toNat = 45)
def isName (s : ByteArray) : Bool := s.data.toList.all okChar && decide (0 < s.size) && decide (s.size ≤ 40)

/-- An operation is counted: does power fail in it, and the state behind. -/
def PD.tick (s : PD) : Bool × PD :=
  match s.limit with
  | none => (false, s)
  | some 0 => (true, { s with down := true })
  | some (n + 1) => (false, { s with limit := some n })
def outc (failed : Bool) : Int := if failed then 32 else 0

def PD.apply (s : PD) (c : PChange) : PD := { s with names := c.on s.names, pending := s.pending ++ [c] }

def PD.append (s : PD) (name data : ByteArray) : Int × PD :=
  if s.down then (18, s)
  else if isName name = false then (11, s)
  else match find s.names name with
  | none =>
    if 64 ≤ s.names.length then (6, s)
    else if s.cap < s.used + data.size then (33, s)
    else (outc s.tick.1, { s.tick.2.apply (.set name s.files.length) with files := s.files ++ [⟨data, 0⟩] })
  | some k =>
    if s.cap < s.used + data.size then (33, s)
    else (outc s.tick.1, { s.tick.2 with files := s.files.modify k fun f => { f with data := f.data ++ data } })

def PD.sync (s : PD) (name : ByteArray) : Int × PD :=
  if s.down then (18, s)
  else match find s.names name with
  | none => (10, s)
  | some k => if s.tick.1 then (32, s.tick.2) else (0, { s.tick.2 with files := s.files.modify k fun f => { f with dur := f.data.size } })

def PD.rename (s : PD) (src dst : ByteArray) : Int × PD :=
  if s.down then (18, s)
  else match find s.names src with
  | none => (10, s)
  | some k => if isName dst = false then (11, s) else (outc s.tick.1, s.tick.2.apply (.ren src dst k))

def PD.remove (s : PD) (name : ByteArray) : Int × PD :=
  if s.down then (18, s)
  else match find s.names name with
  | none => (10, s)
  | some _ => (outc s.tick.1, s.tick.2.apply (.rem name))

def PD.publish (s : PD) : Int × PD :=
  if s.down then (18, s)
  else if s.tick.1 then (32, s.tick.2) else (0, { s.tick.2 with durable := s.names, pending := [] })

def PD.read (s : PD) (name : ByteArray) : ByteArray × Int :=
  if s.down then (ByteArray.empty, 18)
  else match find s.names name with
  | none => (ByteArray.empty, 10)
  | some k => ((fileAt s.files k).data, 0)

def PD.size (s : PD) (name : ByteArray) : Nat × Int := ((s.read name).1.size, (s.read name).2)
def PD.list (s : PD) : List ByteArray := if s.down then [] else s.names.map (·.1)
def PD.free (s : PD) : Nat := if s.down then 0 else s.cap - s.used
def PD.setLimit (s : PD) (n : Int) : Int × PD :=
  if s.down then (18, s) else (0, { s with limit := if n < 0 then none else some n.toNat })
def PD.crash (s : PD) : PD := { s with down := true }

/-- A choice from 0 to most, out of a script. -/
def choice (sc : List Int) (most : Nat) : Nat × List Int :=
  match sc with
  | [] => (0, [])
  | n :: r => (if n < 0 then 0 else n.toNat % (most + 1), r)

def flipLast (t : ByteArray) : ByteArray := t.extract 0 (t.size - 1) ++ ⟨#[255 - t.data.toList.getD (t.size - 1) 0]⟩

def startFile (f : PFile) (sc : List Int) : ByteArray × List Int :=
  let c := choice sc (f.data.size - f.dur)
  let t := f.data.extract 0 (f.dur + c.1)
  if 0 < c.1 then
    let c2 := choice c.2 1
    (if c2.1 = 1 then flipLast t else t, c2.2)
  else (t, c.2)

def startLoop : Names → List PFile → List Int → List PFile × List Int
  | [], fs, sc => (fs, sc)
  | e :: r, fs, sc =>
    let x := startFile (fileAt fs e.2) sc
    startLoop r (fs.modify e.2 fun _ => ⟨x.1, x.1.size⟩) x.2

def PD.start (s : PD) (script : List Int) : PD :=
  if s.down = false then s
  else
    let c := choice script s.pending.length
    let l := (s.pending.take c.1).foldl PChange.on s.durable
    { s with names := l, durable := l, pending := [], limit := none, down := false, files := (startLoop l s.files c.2).1 }

end Go.Proofs.Ytigcokgjikkohaa.Pd
