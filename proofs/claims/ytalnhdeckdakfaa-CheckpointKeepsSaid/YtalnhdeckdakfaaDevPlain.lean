/-
  Plain lists of named bytes: what a device's files are, without any program.
-/
namespace Go.Proofs.Ytalnhdeckdakfaa.Dev

abbrev FS := List (ByteArray × List Int)

def FS.get : FS → ByteArray → Option (List Int)
  | [], _ => none
  | e :: l, k => if e.1 = k then some e.2 else FS.get l k
def FS.put : FS → ByteArray → List Int → FS
  | [], k, v => [(k, v)]
  | e :: l, k, v => if e.1 = k then (k, v) :: l else e :: FS.put l k v
def FS.del : FS → ByteArray → FS
  | [], _ => []
  | e :: l, k => if e.1 = k then l else e :: FS.del l k

/-- an operation: 1 Create, 2 Append, 3 Rename, 4 Delete -/
structure Op where
  kind : Nat
  name : ByteArray
  to : ByteArray
  b : List Int
def Op.writes (o : Op) : Bool := o.kind == 1 || o.kind == 2
def app (l : FS) (o : Op) : FS :=
  if o.kind = 1 then l.put o.name o.b
  else if o.kind = 2 then l.put o.name (((l.get o.name).getD []) ++ o.b)
  else if o.kind = 3 then (l.del o.name).put o.to ((l.get o.name).getD [])
  else l.del o.name
def apps (l : FS) (os : List Op) : FS := os.foldl app l

structure DS where
  dur : FS
  now : FS
  pend : List Op
  fuse : Int
  down : Bool
def DS.new : DS := ⟨[], [], [], 0, false⟩
def okc (c : UInt8) : Bool := (97 ≤ c && c ≤ 122) || (48 ≤ c && c ≤ 57) || c == 46 || c == 45
def valid (s : ByteArray) : Bool := decide (1 ≤ s.size) && decide (s.size ≤ 64) && s.data.toList.all okc
/-- the fuse: the state behind it, and whether the power is still there -/
def DS.burn (d : DS) : DS × Bool :=
  if d.fuse = 0 then (d, true)
  else if d.fuse - 1 > 0 then ({ d with fuse := d.fuse - 1 }, true)
  else ({ d with fuse := d.fuse - 1, down := true }, false)
def DS.perform (d : DS) (o : Op) : DS × Int :=
  if d.burn.2 then ({ d.burn.1 with now := app d.burn.1.now o, pend := d.burn.1.pend ++ [o] }, 0) else (d.burn.1, 303)
/-- the errors of power and names -/
def chk (down needed : Bool) (fs : FS) (ns : List ByteArray) : Int :=
  if down then 303 else if ns.all valid = false then 300 else if needed && (fs.get (ns.headD ByteArray.empty)).isNone then 301 else 0
def DS.create (d : DS) (k : ByteArray) (b : List Int) : DS × Int :=
  if chk d.down false d.now [k] = 0 then
    if 4194304 < b.length ∨ ((d.now.get k).isSome = false ∧ 256 ≤ d.now.length) then (d, 302) else d.perform ⟨1, k, ⟨#[]⟩, b⟩
  else (d, chk d.down false d.now [k])
def DS.append (d : DS) (k : ByteArray) (b : List Int) : DS × Int :=
  if chk d.down true d.now [k] = 0 then
    if 4194304 < ((d.now.get k).getD []).length + b.length then (d, 302) else d.perform ⟨2, k, ⟨#[]⟩, b⟩
  else (d, chk d.down true d.now [k])
def DS.rename (d : DS) (k to : ByteArray) : DS × Int :=
  if chk d.down true d.now [k, to] = 0 then d.perform ⟨3, k, to, []⟩ else (d, chk d.down true d.now [k, to])
def DS.delete (d : DS) (k : ByteArray) : DS × Int :=
  if chk d.down true d.now [k] = 0 then d.perform ⟨4, k, ⟨#[]⟩, []⟩ else (d, chk d.down true d.now [k])
def DS.settle (d : DS) (os : List Op) : DS := { d with dur := apps d.dur os, now := apps d.dur os, pend := [] }
def DS.sync (d : DS) : DS × Int :=
  if d.down then (d, 303) else if d.burn.2 then (d.burn.1.settle d.pend, 0) else (d.burn.1, 303)
def DS.setFuse (d : DS) (n : Int) : DS := { d with fuse := max n 0 }
def DS.restart (d : DS) : DS := if d.down then { d.settle [] with down := false } else d
def DS.read (d : DS) (k : ByteArray) : List Int × Int :=
  if chk d.down true d.now [k] = 0 then ((d.now.get k).getD [], 0) else ([], chk d.down true d.now [k])
def Op.cut (o : Op) (torn : Int) : Op := { o with b := o.b.take (min torn o.b.length).toNat }
def DS.keep (d : DS) (keep : Int) : Nat := (min (max keep 0) d.pend.length).toNat
def DS.kept (d : DS) (keep torn : Int) : List Op :=
  d.pend.take (d.keep keep) ++
    match d.pend[d.keep keep]? with
    | some o => if 0 ≤ keep ∧ o.writes ∧ 0 ≤ torn then [o.cut torn] else []
    | none => []
def DS.lose (d : DS) (keep torn : Int) : DS := ({ d with down := true, fuse := 0 } : DS).settle (d.kept keep torn)
def bxor (x y : Int) : Int := ((BitVec.ofInt 8 x ^^^ BitVec.ofInt 8 y).toNat : Int)
def flipAt (b : List Int) (off bit : Int) : List Int := b.set off.toNat (bxor (b.getD off.toNat 0) ((2 ^ bit.toNat : Nat) : Int))
def DS.flip (d : DS) (k : ByteArray) (off bit : Int) : DS × Int :=
  if valid k = false then (d, 300)
  else match d.now.get k with
    | none => (d, 301)
    | some b => if 0 < d.pend.length ∨ off < 0 ∨ (b.length : Int) ≤ off ∨ bit < 0 ∨ 7 < bit then (d, 304)
      else ({ d with dur := d.dur.put k (flipAt b off bit), now := d.now.put k (flipAt b off bit) }, 0)
def DS.doOp (d : DS) (o : Op) : DS × Int :=
  if o.kind = 1 then d.create o.name o.b else if o.kind = 2 then d.append o.name o.b else if o.kind = 3 then d.rename o.name o.to else d.delete o.name
end Go.Proofs.Ytalnhdeckdakfaa.Dev
