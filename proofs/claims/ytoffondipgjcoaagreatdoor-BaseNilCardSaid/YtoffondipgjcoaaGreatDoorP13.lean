/- Part 13 of 27 of the contracts below the law: each theorem states, of one function of the program, at a world of the form that its premises name, what the call answers and what it leaves. -/
import Derived.Test.YtoffondipgjcoaaGreatDoorP11
import Derived.Test.YtoffondipgjcoaaGreatDoorP10
/- The plain mirrors of the packages node, space, tree and base. -/
set_option linter.unusedVariables false
set_option maxRecDepth 100000
set_option linter.unusedSimpArgs false
namespace Go.Proofs.YtoffondipgjcoaaGreatDoor

abbrev Bytes := List UInt8
/-! readers, as lists -/
structure LR where
  rest : Bytes
  err : Nat
def LR.take (r : LR) (k : Nat) : Bytes × Bool × LR :=
  if r.err ≠ 0 then ([], false, r) else if r.rest.length < k then ([], false, { r with err := 2 }) else (r.rest.take k, true, { r with rest := r.rest.drop k })
def LR.num (r : LR) (k : Nat) : Nat × LR := (numL (r.take k).1, (r.take k).2.2)
def LR.str (r : LR) (most : Nat) : Bytes × LR :=
  if r.err ≠ 0 then ([], r) else
  if (r.take 1).2.1 then
    if most < ((r.take 1).1.headD 0).toNat then ([], ⟨r.rest, 3⟩) else
    if ((r.take 1).2.2.take ((r.take 1).1.headD 0).toNat).2.1 then (((r.take 1).2.2.take ((r.take 1).1.headD 0).toNat).1, ((r.take 1).2.2.take ((r.take 1).1.headD 0).toNat).2.2)
    else ([], { ((r.take 1).2.2.take ((r.take 1).1.headD 0).toNat).2.2 with rest := r.rest })
  else ([], (r.take 1).2.2)
def LR.raw (r : LR) (k : Nat) : Bytes × LR := ((r.take k).1, (r.take k).2.2)
def pstr (s : Bytes) : Bytes := UInt8.ofNat (min s.length 255) :: s.take 255
/-! nodes -/
structure Nd where
  leaf : Bool
  pairs : List (Bytes × Bytes)
  keys : List Bytes
  kids : List Nat
def leaf0 : Nd := ⟨true, [], [], []⟩
def node0 : Nd := ⟨false, [], [], []⟩
def weigh (p : Bytes × Bytes) : Nat := 2 + p.1.length + p.2.length
def weighs (l : List (Bytes × Bytes)) : Nat := (l.map weigh).sum
def kweighs (l : List Bytes) : Nat := (l.map fun k => 3 + k.length).sum
def Nd.size (n : Nd) : Nat := if n.leaf then 2 + weighs n.pairs else 4 + kweighs n.keys
def risingF : Option Bytes → List Bytes → Bool
  | _, [] => true
  | p, k :: l => !k.isEmpty && decide (k.length ≤ 32) && (match p with | none => true | some q => blt q k) && risingF (some k) l
def Nd.right (n : Nd) : Bool :=
  if n.leaf then decide (n.keys.length + n.kids.length = 0) && risingF none (n.pairs.map (·.1)) && !(n.pairs.any fun p => decide (40 < p.2.length))
  else decide (n.pairs.length = 0) && decide (n.kids.length = n.keys.length + 1) && risingF none n.keys && !(n.kids.any fun k => decide (k < 1) || decide (65535 < k))
def pairB (p : Bytes × Bytes) : Bytes := pstr p.1 ++ pstr p.2
def keyB (k : Bytes) (c : Nat) : Bytes := pstr k ++ be c 2
def Nd.body (n : Nd) : Bytes :=
  if n.leaf then [1, UInt8.ofNat n.pairs.length] ++ n.pairs.flatMap pairB
  else [2, UInt8.ofNat n.keys.length] ++ be (n.kids.getD 0 0) 2 ++ ((List.range n.keys.length).flatMap fun i => keyB (n.keys.getD i []) (n.kids.getD (i + 1) 0))
def Nd.write (n : Nd) : Bytes × Nat :=
  if !n.right then ([], 4) else if 256 < n.size then ([], 3) else (n.body ++ zeros (256 - n.body.length), 0)
def rdPairs : Nat → LR → List (Bytes × Bytes) × LR
  | 0, r => ([], r)
  | n + 1, r => (((r.str 32).1, ((r.str 32).2.str 40).1) :: (rdPairs n ((r.str 32).2.str 40).2).1, (rdPairs n ((r.str 32).2.str 40).2).2)
def rdKeys : Nat → LR → List (Bytes × Nat) × LR
  | 0, r => ([], r)
  | n + 1, r => (((r.str 32).1, ((r.str 32).2.num 2).1) :: (rdKeys n ((r.str 32).2.num 2).2).1, (rdKeys n ((r.str 32).2.num 2).2).2)
def bothKinds : Nat → LR → List Bytes × LR
  | 0, r => ([], r)
  | n + 1, r => ((r.str 32).1 :: (bothKinds n (r.str 32).2).1, (bothKinds n (r.str 32).2).2)
def allZero (s : Bytes) : Bool := s.all (· == 0)
def rdNode (s : Bytes) : Nd × LR :=
  let a := LR.num ⟨s, 0⟩ 1
  let c := a.2.num 1
  if a.1 = 1 then (let p := rdPairs c.1 c.2; (⟨true, p.1, [], []⟩, p.2))
  else if a.1 = 2 then (let k := c.2.num 2; let p := rdKeys c.1 k.2; (⟨false, [], p.1.map (·.1), k.1 :: p.1.map (·.2)⟩, p.2))
  else (let p := rdKeys c.1 c.2; (⟨false, [], p.1.map (·.1), p.1.map (·.2)⟩, p.2))
def Nd.read (s : Bytes) : Nd × Nat :=
  let a := (LR.num ⟨s, 0⟩ 1).1
  let x := rdNode s
  let t := x.2.raw x.2.rest.length
  if (a ≠ 1 ∧ a ≠ 2) ∨ t.2.err ≠ 0 ∨ s.length ≠ 256 ∨ x.1.right = false ∨ allZero t.1 = false then (node0, 10) else (x.1, 0)
def Nd.child (n : Nd) (key : Bytes) : Nat := n.keys.countP fun k => !blt key k
def Nd.find (n : Nd) (key : Bytes) : Nat × Bool :=
  let c := n.pairs.countP fun p => blt p.1 key
  (c, decide ((n.pairs[c]?).map (·.1) = some key))
def Nd.cut (n : Nd) (key : Bytes) : Nd := ⟨true, if (n.find key).2 then n.pairs.eraseIdx (n.find key).1 else n.pairs, [], []⟩
def insAt {α : Type} (l : List α) (i : Nat) (x : α) : List α := l.take i ++ x :: l.drop i
def Nd.put (n : Nd) (key value : Bytes) : Nd := ⟨true, insAt (n.cut key).pairs (n.find key).1 (key, value), [], []⟩
def halfF (all last : Nat) : Nat → List Nat → Nat → Nat → Nat
  | 0, _, _, i => i
  | _ + 1, [], _, i => i
  | f + 1, x :: l, part, i => if i = 0 ∨ (i < last ∧ 2 * part < all) then halfF all last f l (part + x) (i + 1) else i
def half (l : List Bytes) : Nat := halfF (kweighs l) (l.length - 2) l.length (l.map fun k => 3 + k.length) 0 0
def halfLeaf (l : List (Bytes × Bytes)) : Nat := halfF (weighs l) (l.length - 1) l.length (l.map weigh) 0 0
def Nd.split (n : Nd) : Nd × Nd × Bytes :=
  if n.leaf = true ∧ 1 < n.pairs.length then
    (⟨true, n.pairs.take (halfLeaf n.pairs), [], []⟩, ⟨true, n.pairs.drop (halfLeaf n.pairs), [], []⟩, (n.pairs.getD (halfLeaf n.pairs) ([], [])).1)
  else if n.leaf = false ∧ 2 < n.keys.length ∧ n.kids.length = n.keys.length + 1 then
    (⟨false, [], n.keys.take (half n.keys), n.kids.take (half n.keys + 1)⟩, ⟨false, [], n.keys.drop (half n.keys + 1), n.kids.drop (half n.keys + 1)⟩, n.keys.getD (half n.keys) [])
  else (n, node0, [])
def Nd.join (a b : Nd) (key : Bytes) : Nd := if a.leaf then ⟨true, a.pairs ++ b.pairs, [], []⟩ else ⟨false, [], a.keys ++ [key] ++ b.keys, a.kids ++ b.kids⟩
/-! work on pages -/
structure St where
  used : Bytes
  head : Bytes
  pages : List (Int × Bytes)
structure Wk where
  now : St
  notes : List St
  over : Bool
  G : Pg
def isU (used : Bytes) (n : Nat) : Bool := (used.getD (n / 8) 0).toNat.testBit (n % 8)
def turnU (used : Bytes) (n : Nat) : Bytes := used.set (n / 8) (UInt8.ofNat (Nat.xor (used.getD (n / 8) 0).toNat (2 ^ (n % 8))))
def Wk.begin (G : Pg) : Wk := ⟨⟨(G.pages.getD 0 []).take 20, (G.pages.getD 0 []).drop 20, []⟩, [], false, G⟩
def Wk.may (W : Wk) : Nat := if W.over then 13 else 0
def Wk.there (W : Wk) (n : Int) : Nat := if W.over then 13 else if n ≤ 0 ∨ (W.G.pages.length : Int) ≤ n ∨ isU W.now.used n.toNat = false then 7 else 0
def Wk.read (W : Wk) (n : Int) : Bytes × Nat :=
  if W.there n ≠ 0 then ([], W.there n) else match alook W.now.pages n with | some s => (s, 0) | none => (W.G.pages.getD n.toNat [], 0)
def Wk.write (W : Wk) (n : Int) (s : Bytes) : Wk × Nat :=
  if W.there n ≠ 0 then (W, W.there n) else if s.length ≠ 256 then (W, 1) else ({ W with now := { W.now with pages := sput ilt n s W.now.pages } }, 0)
def freeU (used : Bytes) (n : Nat) : Option Nat := (List.range' 1 (n - 1)).find? fun k => !isU used k
def Wk.take (W : Wk) : Nat × Wk × Nat :=
  if W.over then (0, W, 13) else match freeU W.now.used W.G.pages.length with
  | some k => (k, { W with now := { W.now with used := turnU W.now.used k, pages := sput ilt (k : Int) (zeros 256) W.now.pages } }, 0)
  | none => (0, W, 8)
def Wk.drop (W : Wk) (n : Int) : Wk × Nat := if W.there n ≠ 0 then (W, W.there n) else ({ W with now := { W.now with used := turnU W.now.used n.toNat } }, 0)
def Wk.setHead (W : Wk) (s : Bytes) : Wk × Nat := if W.over then (W, 13) else if 236 < s.length then (W, 3) else ({ W with now := { W.now with head := s ++ zeros (236 - s.length) } }, 0)
def Wk.save (W : Wk) : Nat × Wk := if W.over then (0, W) else (W.notes.length, { W with notes := W.notes ++ [W.now] })
def Wk.back (W : Wk) (k : Int) : Wk × Nat :=
  if W.over then (W, 13) else if k < 0 ∨ (W.notes.length : Int) ≤ k then (W, 7) else ({ W with now := W.notes.getD k.toNat W.now, notes := W.notes.take (k.toNat + 1) }, 0)
def Wk.used (W : Wk) : Nat := if W.over then 0 else 1 + (List.range' 1 (W.G.pages.length - 1)).countP (isU W.now.used)
def Wk.first (W : Wk) : Bytes := W.now.used ++ W.now.head
def Wk.changes (W : Wk) : List Chg :=
  (if W.G.pages.getD 0 [] ≠ W.first then [(0, W.first)] else []) ++
  (W.now.pages.filter fun p => isU W.now.used p.1.toNat && decide (W.G.pages.getD p.1.toNat [] ≠ p.2)).map fun p => (p.1.toNat, p.2)
def Wk.commit (W : Wk) : Wk × Int :=
  if W.over then (W, 13) else ({ W with G := (W.G.commit W.changes).2, over := decide ((W.G.commit W.changes).1 = 0) }, (W.G.commit W.changes).1)
/-! trees -/
structure X where
  W : Wk
  err : Nat
  reads : Nat
def X.note (x : X) (e : Nat) : X := if x.err = 0 then { x with err := e } else x
def X.read (x : X) (page : Nat) (left : Nat) : Nd × X :=
  let x1 := { x with reads := x.reads + 1 }
  let x2 := if left = 0 ∨ 1000 < x1.reads then x1.note 10 else x1
  if x2.err ≠ 0 then (leaf0, x2) else
  let s := x2.W.read page
  let x3 := x2.note s.2
  if x3.err ≠ 0 then (leaf0, x3) else
  let n := Nd.read s.1
  let x4 := x3.note n.2
  if x4.err ≠ 0 then (leaf0, x4) else (n.1, x4)
def X.write (x : X) (page : Nat) (n : Nd) : X :=
  let s := n.write
  let x1 := x.note s.2
  if x1.err ≠ 0 then x1 else
  let r := x1.W.write page s.1
  { x1 with W := r.1 }.note r.2
def X.take (x : X) : Nat × X :=
  if x.err ≠ 0 then (0, x) else
  let r := x.W.take
  (r.1, { x with W := r.2.1 }.note r.2.2)
def X.drop (x : X) (page : Nat) : X :=
  if x.err ≠ 0 then x else
  let r := x.W.drop page
  { x with W := r.1 }.note r.2
def X.put (x : X) (page : Nat) (n : Nd) : List (Bytes × Nat) × X :=
  if n.size ≤ 256 then ([([], page)], x.write page n) else
  let s := n.split
  let t := x.take
  ([([], page), (s.2.2, t.1)], (t.2.write page s.1).write t.1 s.2.1)
def withParts (parts : List (Bytes × Nat)) : List (Bytes × Nat) := parts
/-- keys and kids with parts in the place of kid k -/
def withL (keys : List Bytes) (kids : List Nat) (k : Nat) (parts : List (Bytes × Nat)) : Nd :=
  ⟨false, [],
   (List.range kids.length).flatMap fun i => (if 0 < i then [keys.getD (i - 1) []] else []) ++ (if i = k then (parts.drop 1).map (·.1) else []),
   (List.range kids.length).flatMap fun i => if i = k then parts.map (·.2) else [kids.getD i 0]⟩
def X.insert (key value : Bytes) : Nat → X → Nat → List (Bytes × Nat) × X
  | 0, x, page => ([], (x.read page 0).2)
  | left + 1, x, page =>
    let r := x.read page (left + 1)
    if r.2.err ≠ 0 then ([], r.2) else
    if r.1.leaf then r.2.put page (r.1.put key value) else
    let k := r.1.child key
    let p := X.insert key value left r.2 (r.1.kids.getD k 0)
    if p.2.err ≠ 0 then ([], p.2) else p.2.put page (withL r.1.keys r.1.kids k p.1)
def poor (n : Nd) : Bool := decide (n.size < 90) || n.leaf && n.pairs.isEmpty || !n.leaf && n.keys.isEmpty
def X.mend (x : X) (n : Nd) (k left : Nat) : Nd × X :=
  let r := x.read (n.kids.getD k 0) left
  if r.2.err ≠ 0 ∨ poor r.1 = false ∨ n.kids.length < 2 then (n, r.2) else
  let k := k - 1
  let a := r.2.read (n.kids.getD k 0) left
  let b := a.2.read (n.kids.getD (k + 1) 0) left
  if b.2.err ≠ 0 then (n, b.2) else
  let both := a.1.join b.1 (n.keys.getD k [])
  let out : Nd := ⟨false, [], n.keys.eraseIdx k, n.kids.eraseIdx (k + 1)⟩
  if both.size ≤ 256 then (out, (b.2.write (n.kids.getD k 0) both).drop (n.kids.getD (k + 1) 0)) else
  let s := both.split
  (withL out.keys out.kids k [([], n.kids.getD k 0), (s.2.2, n.kids.getD (k + 1) 0)], (b.2.write (n.kids.getD k 0) s.1).write (n.kids.getD (k + 1) 0) s.2.1)
def X.remove (key : Bytes) : Nat → X → Nat → (List (Bytes × Nat) × Bool) × X
  | 0, x, page => (([], false), (x.read page 0).2)
  | left + 1, x, page =>
    let r := x.read page (left + 1)
    if r.2.err ≠ 0 then (([], false), r.2) else
    if r.1.leaf then (let p := r.2.put page (r.1.cut key); ((p.1, (r.1.find key).2), p.2)) else
    let k := r.1.child key
    let p := X.remove key left r.2 (r.1.kids.getD k 0)
    if p.2.err ≠ 0 ∨ p.1.2 = false then (([([], page)], false), p.2) else
    let n := withL r.1.keys r.1.kids k p.1.1
    let m := if p.1.1.length = 1 then p.2.mend n k left else (n, p.2)
    if m.2.err ≠ 0 then (([], false), m.2) else
    let q := m.2.put page m.1
    ((q.1, true), q.2)
def X.root (x : X) (parts : List (Bytes × Nat)) : Nat × X :=
  if x.err ≠ 0 ∨ parts.length = 0 then (0, x) else if parts.length = 1 then ((parts.getD 0 ([], 0)).2, x) else
  let t := x.take
  (t.1, t.2.write t.1 ⟨false, [], [(parts.getD 1 ([], 0)).1], [(parts.getD 0 ([], 0)).2, (parts.getD 1 ([], 0)).2]⟩)
def X.shrink (x : X) (root : Nat) : Nat × X :=
  let r := x.read root 40
  if r.2.err ≠ 0 then (0, r.2) else if r.1.leaf && r.1.pairs.isEmpty then (0, r.2.drop root) else if !r.1.leaf && r.1.keys.isEmpty then (r.1.kids.getD 0 0, r.2.drop root) else (root, r.2)
def tdo (W : Wk) (root : Nat) (change : X → Nat × X) : Nat × Nat × Wk :=
  let s := W.save
  let r := change ⟨s.2, 0, 0⟩
  if r.2.err ≠ 0 then (root, r.2.err, (r.2.W.back s.1).1) else (r.1, 0, r.2.W)
def tgetL (key : Bytes) : Nat → X → Nat → Bytes × Bool × Nat
  | 0, x, root => if root = 0 then ([], false, 0) else ([], false, (x.read root 0).2.err)
  | left + 1, x, root => if root = 0 then ([], false, 0) else
    let r := x.read root (left + 1)
    if r.2.err ≠ 0 then ([], false, r.2.err) else
    if r.1.leaf then (if (r.1.find key).2 then ((r.1.pairs.getD (r.1.find key).1 ([], [])).2, true, 0) else ([], false, 0)) else
    tgetL key left r.2 (r.1.kids.getD (r.1.child key) 0)
def tget (W : Wk) (root : Nat) (key : Bytes) : Bytes × Bool × Nat := tgetL key 40 ⟨W, 0, 0⟩ root
def tput (W : Wk) (root : Nat) (key value : Bytes) : Nat × Nat × Wk :=
  if key.isEmpty ∨ 32 < key.length ∨ 40 < value.length then (root, 1, W) else
  tdo W root fun x => if root ≠ 0 then (let p := X.insert key value 40 x root; p.2.root p.1) else (let t := x.take; (t.1, t.2.write t.1 (leaf0.put key value)))
def tdelete (W : Wk) (root : Nat) (key : Bytes) : Nat × Bool × Nat × Wk :=
  if root = 0 then (0, false, 0, W) else
  let g := tget W root key
  if g.2.2 ≠ 0 ∨ g.2.1 = false then (root, false, g.2.2, W) else
  let r := tdo W root fun x =>
    let p := X.remove key 40 x root
    let n := p.2.root p.1.1
    if n.2.err ≠ 0 then (0, n.2) else n.2.shrink n.1
  (r.1, decide (r.2.1 = 0), r.2.1, r.2.2)
def inR (lo hi k : Bytes) : Bool := !blt k lo && (hi.isEmpty || blt k hi)
def scanKids (f : X → Nat → List (Bytes × Bytes) × X) (lo hi : Bytes) (keys : List Bytes) : List Nat → Nat → X → List (Bytes × Bytes) × X
  | [], _, x => ([], x)
  | kid :: l, i, x =>
    let ahead := decide (i < keys.length) && !blt lo (keys.getD i [])
    let behind := decide (0 < i) && (!hi.isEmpty && !blt (keys.getD (i - 1) []) hi)
    if x.err = 0 ∧ ahead = false ∧ behind = false then
      let r := f x kid
      let q := scanKids f lo hi keys l (i + 1) r.2
      (r.1 ++ q.1, q.2)
    else scanKids f lo hi keys l (i + 1) x
def X.pairs (lo hi : Bytes) : Nat → X → Nat → List (Bytes × Bytes) × X
  | 0, x, page => ([], (x.read page 0).2)
  | left + 1, x, page =>
    let r := x.read page (left + 1)
    let q := scanKids (fun x kid => X.pairs lo hi left x kid) lo hi r.1.keys r.1.kids 0 r.2
    (r.1.pairs.filter (fun p => inR lo hi p.1) ++ q.1, q.2)
def tscan (W : Wk) (root : Nat) (lo hi : Bytes) : List (Bytes × Bytes) × Nat :=
  if root = 0 then ([], 0) else
  let r := X.pairs lo hi 40 ⟨W, 0, 0⟩ root
  if r.2.err ≠ 0 then ([], r.2.err) else (r.1, 0)
def dropKids (f : X → Nat → X) : List Nat → X → X
  | [], x => x
  | kid :: l, x => if x.err = 0 then dropKids f l (f x kid) else dropKids f l x
def X.drops : Nat → X → Nat → X
  | 0, x, page => (x.read page 0).2.drop page
  | left + 1, x, page =>
    let r := x.read page (left + 1)
    (dropKids (fun x kid => X.drops left x kid) r.1.kids r.2).drop page
def tdrop (W : Wk) (root : Nat) : Nat × Wk :=
  if root = 0 then (0, W) else
  let r := tdo W root fun x => (0, X.drops 40 x root)
  (r.2.1, r.2.2)
structure Sg where
  x : X
  pages : List (Int × Int)
  depth : Nat
  bad : Bool
def lookKids (f : Sg → Nat → Bytes → Bytes → Sg) (lo hi : Bytes) (keys : List Bytes) : List Nat → Nat → Sg → Sg
  | [], _, s => s
  | kid :: l, i, s =>
    let a := if 0 < i then keys.getD (i - 1) [] else lo
    let b := if i < keys.length then keys.getD i [] else hi
    lookKids f lo hi keys l (i + 1) (if s.bad then s else f s kid a b)
def Sg.look : Nat → Sg → Nat → Nat → Bytes → Bytes → Sg
  | left, s, level, page, lo, hi =>
    let r := s.x.read page left
    let c := (alook s.pages (page : Int)).getD 0 + 1
    let s1 : Sg := { s with x := r.2, pages := sput ilt (page : Int) c s.pages }
    if r.2.err ≠ 0 ∨ 1 < c then { s1 with bad := true } else
    let ks := r.1.keys ++ r.1.pairs.map (·.1)
    let s2 := { s1 with bad := s1.bad || (ks.any fun k => blt k lo || (!hi.isEmpty && !blt k hi)) || ks.isEmpty }
    if r.1.leaf then
      let s3 := if s2.depth = 0 then { s2 with depth := level } else s2
      { s3 with bad := s3.bad || decide (s3.depth ≠ level) }
    else match left with
      | 0 => s2
      | left + 1 => lookKids (fun s kid a b => Sg.look left s (level + 1) kid a b) lo hi r.1.keys r.1.kids 0 s2
def tsound (W : Wk) (root : Nat) : Nat × Nat × Bool :=
  if root = 0 then (0, 0, true) else
  let s := Sg.look 40 ⟨⟨W, 0, 0⟩, [], 0, false⟩ 1 root [] []
  if s.bad then (0, 0, false) else (s.pages.length, s.depth, true)
/-! bases -/
abbrev Tabs := List (Bytes × (Nat × Nat))
structure Tx where
  W : Wk
  tabs : Tabs
  notes : List (Nat × Tabs)
  over : Bool
  busy : Bool
  stuck : Bool
def nameOK (s : Bytes) : Bool := !s.isEmpty && decide (s.length ≤ 8) && s.all fun c => (decide (97 ≤ c.toNat) && decide (c.toNat ≤ 122)) || decide (c.toNat = 95)
def rdTabs : Nat → LR → Bytes → Option (Tabs × LR)
  | 0, r, _ => some ([], r)
  | n + 1, r, last =>
    let a := r.str 8
    if nameOK a.1 = false ∨ blt last a.1 = false then none else
    let b := a.2.num 2
    let c := b.2.num 2
    (rdTabs n c.2 a.1).map fun t => ((a.1, (b.1, c.1)) :: t.1, t.2)
def headRd (s : Bytes) : Option Tabs :=
  let a := LR.num ⟨s, 0⟩ 1
  match rdTabs a.1 a.2 [] with
  | none => none
  | some t => let q := t.2.raw t.2.rest.length; if q.2.err = 0 ∧ a.1 ≤ 12 ∧ allZero q.1 = true then some t.1 else none
def headWr (l : Tabs) : Bytes := UInt8.ofNat l.length :: l.flatMap fun p => pstr p.1 ++ be p.2.1 2 ++ be p.2.2 2
def begin_ (G : Pg) (busy stuck : Bool) : Option Tx × Nat :=
  if busy ∨ stuck then (none, 13) else match headRd (Wk.begin G).now.head with | none => (none, 10) | some l => (some ⟨Wk.begin G, l, [], false, true, stuck⟩, 0)
def Tx.there (t : Tx) (name : Bytes) : (Nat × Nat) × Nat := if t.over then ((0, 0), 13) else match alook t.tabs name with | none => ((0, 0), 7) | some x => (x, 0)
def Tx.make (t : Tx) (name : Bytes) : Tx × Nat :=
  if t.over then (t, 13) else if nameOK name = false then (t, 1) else if (alook t.tabs name).isSome then (t, 11) else if 12 ≤ t.tabs.length then (t, 3) else ({ t with tabs := sput blt name (0, 0) t.tabs }, 0)
def Tx.get (t : Tx) (name key : Bytes) : Bytes × Bool × Nat := if (t.there name).2 ≠ 0 then ([], false, (t.there name).2) else tget t.W (t.there name).1.1 key
def Tx.put (t : Tx) (name key value : Bytes) : Tx × Nat :=
  let g := t.get name key
  if g.2.2 ≠ 0 then (t, g.2.2) else
  let x := (alook t.tabs name).getD (0, 0)
  let r := tput t.W x.1 key value
  if r.2.1 ≠ 0 then ({ t with W := r.2.2 }, r.2.1) else ({ t with W := r.2.2, tabs := sput blt name (r.1, if g.2.1 then x.2 else x.2 + 1) t.tabs }, 0)
def Tx.commit (t : Tx) : Tx × Int :=
  if t.over then (t, 13) else
  let h := t.W.setHead (headWr t.tabs)
  if h.2 ≠ 0 then ({ t with W := h.1 }, h.2) else
  let r := h.1.commit
  if r.2 = 3 then ({ t with W := r.1 }, 3) else ({ t with W := r.1, stuck := t.stuck || decide (r.2 ≠ 0), over := true, busy := false }, r.2)
def Tx.abort (t : Tx) : Tx × Nat := if t.over then (t, 13) else ({ t with over := true, busy := false }, 0)
def Tx.sound (t : Tx) : Bool :=
  !t.over && (t.tabs.all fun x => (tsound t.W x.2.1).2.2 && decide ((tscan t.W x.2.1 [] []).2 = 0) && decide ((tscan t.W x.2.1 [] []).1.length = x.2.2)) &&
  decide (1 + (t.tabs.map fun x => (tsound t.W x.2.1).1).sum = t.W.used)
def openB (D : Dev) (n : Nat) : Option (Pg × Nat) :=
  match begin_ (openG D n) false false with
  | (none, _) => none
  | (some t, _) => some (t.W.G, t.abort.2)
end Go.Proofs.YtoffondipgjcoaaGreatDoor
