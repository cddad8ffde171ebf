import Derived.WalkKit
import Derived.KernelRfl
/-! The evaluator: values without memory. Definitions alone. -/
namespace Go.AE

inductive AV where
  | int (k : IntKind) (n : Int)
  | bool (b : Bool)
  | str (s : List UInt8)
  | nilp | nilf | nili | nils | nilm
  | ifc (t : TypeId)
  | agg (cs : List AV)
  | tup (vs : List AV)
  | sl (k : Nat) (ex : Bool) (xs : List AV)
  | fn (f : Nat) (fs cs : List AV)
  | lp (d ver i j : Nat)
  | ls (d ver i n : Nat)
  | gp (r i j : Nat)
  | gs (r i n : Nat)
  | rp (x : AV) (j : Nat)
  | own (k : Nat) (fz : Bool) (xs : List AV)
  | dead
  deriving Inhabited

/-! ### Lists that are tables -/
def lget {α : Type} (z : α) : List α → Nat → α
  | [], _ => z
  | x :: _, 0 => x
  | _ :: l, n + 1 => lget z l n
def lput {α : Type} (z : α) : List α → Nat → α → List α
  | [], 0, v => [v]
  | [], n + 1, v => z :: lput z [] n v
  | _ :: l, 0, v => v :: l
  | x :: l, n + 1, v => x :: lput z l n v
def allSome {α β : Type} (f : α → Option β) : List α → Option (List β)
  | [] => some []
  | x :: l => (f x).bind fun y => (allSome f l).bind fun ys => some (y :: ys)

/-! ### Values -/
def AV.cells : AV → List AV
  | .agg cs => cs
  | v => [v]
/-- The value of one cell. -/
def AV.isCell : AV → Bool
  | .agg _ | .tup _ | .own .. | .dead => false
  | _ => true
/-- A value whose cells are known. -/
def AV.known : AV → Bool
  | .agg cs => cs.all AV.isCell
  | v => v.isCell
/-- A cell that leads to no object. -/
def AV.goodC : AV → Bool
  | .int .. | .bool _ | .str _ | .nilp | .nilf | .nili | .nils | .nilm | .ifc _ | .sl .. => true
  | .fn _ fs cs => fs.isEmpty && cs.isEmpty
  | _ => false
/-- A cell that a function of G may hold. -/
def AV.gclI : AV → Bool
  | .gp .. | .gs .. => true
  | c => c.goodC
def refsI : AV → List Nat
  | .gp r _ _ => [r]
  | .gs r _ _ => [r]
  | _ => []
def AV.good : AV → Bool
  | .agg cs => cs.all AV.goodC
  | v => v.goodC
def ofCell : Value → Option AV
  | .int k n => some (.int k n)
  | .bool b => some (.bool b)
  | .string s => some (.str s.data.toList)
  | .pointer none => some .nilp
  | .nilFunc => some .nilf
  | .nilIface => some .nili
  | .slice none 0 0 => some .nils
  | .map none => some .nilm
  | .func (.func f) a b => if a.size = 0 ∧ b.size = 0 then some (.fn f [] []) else none
  | _ => none
def ofValue : Value → Option AV
  | .agg cs => (allSome ofCell cs.toList).bind fun l => some (.agg l)
  | .tuple vs => if vs.size = 0 then some (.tup []) else none
  | v => ofCell v

/-! ### Types -/
def szP (P : Program) (t : TypeId) : Option Nat := (P.info? t).map (·.size)
def byP (P : Program) (t : TypeId) : Option Nat := (P.info? t).map (·.bytes)
def aggP (P : Program) (t : TypeId) : Option Bool :=
  match P.underlying t with
  | some (.struct _) => some true
  | some (.array _ _) => some true
  | some _ => some false
  | none => none
def zeroP (P : Program) (t : TypeId) : Option AV := ((P.info? t).bind (·.zero)).bind ofValue
/-- What is compared by ==. -/
inductive SK where
  | i (k : IntKind) | b | s
  deriving DecidableEq
def eqCells : List SK → List AV → List AV → Option Bool
  | [], [], [] => some true
  | .i k :: sh, .int k1 a :: as, .int k2 b :: bs => if k1 = k ∧ k2 = k then (eqCells sh as bs).bind fun r => some (a == b && r) else none
  | .b :: sh, .bool a :: as, .bool b :: bs => (eqCells sh as bs).bind fun r => some (a == b && r)
  | .s :: sh, .str a :: as, .str b :: bs => (eqCells sh as bs).bind fun r => some (a == b && r)
  | _, _, _ => none

/-! ### Memory -/
structure Ob where
  k : Nat
  arr : Bool
  fz : Bool
  ok : Bool
  xs : List AV
inductive LO where
  | gone (ver : Nat)
  | ob (ver : Nat) (o : Ob)
  | fwd (ver r : Nat)
def LO.ver : LO → Nat
  | .gone v => v
  | .ob v _ => v
  | .fwd v _ => v
abbrev Ls := List LO
abbrev Gs := List Ob
def lo (l : Ls) (d : Nat) : LO := lget (.gone 0) l d
def loPut (l : Ls) (d : Nat) (o : LO) : Ls := lput (.gone 0) l d o
/-- What an operation has to do with memory: the slots whose objects it reads, and writes; whether it reads G; whether it changes G. -/
structure Fp where
  rl : List Nat
  wl : List Nat
  rg : Bool
  hv : Bool
def Fp.no : Fp := ⟨[], [], false, false⟩
def Fp.r (d : Nat) : Fp := ⟨[d], [], false, false⟩
def Fp.w (d : Nat) : Fp := ⟨[d], [d], false, false⟩
def Fp.gr : Fp := ⟨[], [], true, false⟩
def Fp.gw : Fp := ⟨[], [], true, true⟩
def Fp.add (a b : Fp) : Fp := ⟨a.rl ++ b.rl, a.wl ++ b.wl, a.rg || b.rg, a.hv || b.hv⟩
def meets (a b : List Nat) : Bool := a.any fun x => b.any fun y => x == y
/-- One may not be done ahead of the other. -/
def Fp.clash (a b : Fp) : Bool := meets a.wl b.rl || meets b.wl a.rl || meets a.wl b.wl || (a.hv && (b.rg || b.hv)) || (b.hv && a.rg)
def addNew (l : List Nat) : List Nat → List Nat
  | [] => l
  | x :: m => if l.any (· == x) then addNew l m else addNew (l ++ [x]) m
/-- wg: the objects of G that are written -/
structure R where
  v : AV
  l : Ls
  g : Gs
  fp : Fp
  wg : List Nat
/-- A new object, kept by the slot of the operation that makes it. -/
def newL (l : Ls) (d : Nat) (o : Ob) : Nat × Ls :=
  match lo l d with
  | .gone v => (v + 1, loPut l d (.ob (v + 1) o))
  | .ob v _ => (v + 1, loPut l d (.ob (v + 1) o))
  | .fwd v _ => (v + 1, loPut l d (.ob (v + 1) o))
theorem newL_eq (l : Ls) (d : Nat) (o : Ob) : newL l d o = ((lo l d).ver + 1, loPut l d (.ob ((lo l d).ver + 1) o)) := by
  unfold newL
  cases lo l d <;> rfl
/-- A part of a value. -/
def partA (cs : List AV) (off s : Nat) (ag : Bool) : Option AV :=
  if ag then (if off + s ≤ cs.length then some (.agg ((cs.drop off).take s)) else none) else cs[off]?
def setC (j : Nat) (cs : List AV) : Option AV :=
  match j, cs with
  | 0, [c] => some c
  | _, _ => none
/-- A value with other cells from a place on. -/
def setP (y : AV) (j : Nat) (cs : List AV) : Option AV :=
  match y with
  | .agg ys => if j + cs.length ≤ ys.length then some (.agg (ys.take j ++ cs ++ ys.drop (j + cs.length))) else none
  | _ => setC j cs
def readO (o : Ob) (i j s : Nat) (ag : Bool) : Option AV := (o.xs[i]?).bind fun x => partA x.cells j s ag
def loadA (l : Ls) (g : Gs) (s : Nat) (ag : Bool) (a : AV) : Option (AV × Fp) :=
  match a with
  | .lp d ver i j =>
    match lo l d with
    | .ob v o => if v = ver then (readO o i j s ag).bind fun x => some (x, .r d) else none
    | .fwd v r => if v = ver then (g[r]?).bind fun o => (readO o i j s ag).bind fun x => some (x, (Fp.r d).add .gr) else none
    | .gone _ => none
  | .gp r i j => (g[r]?).bind fun o => (readO o i j s ag).bind fun x => some (x, .gr)
  | .rp x j => (partA x.cells j s ag).bind fun x => some (x, .no)
  | _ => none
/-- Another element, or a part of it. -/
def writeO (o : Ob) (i j : Nat) (cs : List AV) : Option Ob :=
  if o.fz then none else (o.xs[i]?).bind fun y => (setP y j cs).bind fun y' => some { o with xs := o.xs.set i y', ok := o.ok && y'.good }

/-! ### What leaves a frame -/
def mapS {σ : Type} (f : AV → σ → Option (AV × σ)) : List AV → σ → Option (List AV × σ)
  | [], s => some ([], s)
  | x :: l, s => (f x s).bind fun (y, s) => (mapS f l s).bind fun (ys, s) => some (y :: ys, s)
structure X where
  l : Ls
  g : Gs
  fp : Fp
/-- keep: own rows stay rows that may grow (what is stored into G); else they are lists from now on. -/
def expN : Nat → Bool → AV → X → Option (AV × X)
  | 0, _, _, _ => none
  | n + 1, keep, c, x =>
    match c with
    | .ls d ver i m =>
      match lo x.l d with
      | .ob v o =>
        if v = ver ∧ o.arr ∧ o.ok ∧ i + m ≤ o.xs.length then
          if keep then
            if i = 0 ∧ m = o.xs.length then some (.gs x.g.length 0 m, ⟨loPut x.l d (.gone v), x.g ++ [{ o with fz := true }], x.fp.add ((Fp.w d).add .gw)⟩) else none
          else some (.sl o.k false ((o.xs.drop i).take m), ⟨if o.fz then x.l else loPut x.l d (.ob v { o with fz := true }), x.g, x.fp.add (if o.fz then .r d else .w d)⟩)
        else none
      | _ => none
    | .lp d ver i j =>
      match lo x.l d with
      | .ob v o =>
        if v = ver ∧ !o.arr then
          (mapS (fun y s => match y with
            | .agg cs => (mapS (expN n true) cs s).bind fun (cs, s) => some (.agg cs, s)
            | y => expN n true y s) o.xs ⟨x.l, x.g, x.fp.add ((Fp.w d).add .gw)⟩).bind fun (xs, s) =>
          match lo s.l d with
          | .ob v2 o2 =>
            if v2 = v ∧ !o2.fz ∧ o2.k = o.k then some (.gp s.g.length i j, ⟨loPut s.l d (.fwd v s.g.length), s.g ++ [{ o with xs := xs, ok := false }], s.fp⟩) else none
          | _ => none
        else none
      | .fwd v r => if v = ver then some (.gp r i j, ⟨x.l, x.g, x.fp.add (.r d)⟩) else none
      | .gone _ => none
    | .gs r i m =>
      if keep then some (.gs r i m, x)
      else (x.g[r]?).bind fun o => if o.arr ∧ i + m ≤ o.xs.length then some (.sl o.k false ((o.xs.drop i).take m), ⟨x.l, x.g, x.fp.add .gr⟩) else none
    | .gp r i j => some (.gp r i j, x)
    | .fn f fs cs => if fs.all AV.good then (mapS (expN n keep) cs x).bind fun (cs, x) => if cs.all AV.gclI then some (.fn f fs cs, x) else none else none
    | .agg _ | .tup _ | .own .. | .dead | .rp .. => none
    | c => some (c, x)
def depthX : Nat := 5
def expV (keep : Bool) (v : AV) (x : X) : Option (AV × X) :=
  match v with
  | .agg cs => (mapS (expN depthX keep) cs x).bind fun (cs, x) => some (.agg cs, x)
  | v => expN depthX keep v x

/-! ### What a call sees of G -/
def refsC : AV → List Nat
  | .gp r _ _ => [r]
  | .gs r _ _ => [r]
  | .fn _ _ cs => cs.flatMap refsI
  | _ => []
def refsV : AV → List Nat
  | .agg cs => cs.flatMap refsC
  | .tup cs => cs.flatMap fun | .agg ds => ds.flatMap refsC | c => refsC c
  | c => refsC c
def refsO (o : Ob) : List Nat := if o.arr then [] else o.xs.flatMap refsV
def reach (g : Gs) : Nat → List Nat → List Nat
  | 0, l => l
  | n + 1, l => reach g n (addNew l (l.flatMap fun r => match g[r]? with | some o => refsO o | none => []))
def depthG : Nat := 6
def renC1 (f : Nat → Nat) : AV → AV
  | .gp r i j => .gp (f r) i j
  | .gs r i n => .gs (f r) i n
  | c => c
def renC (f : Nat → Nat) : AV → AV
  | .gp r i j => .gp (f r) i j
  | .gs r i n => .gs (f r) i n
  | .fn h fs cs => .fn h fs (cs.map (renC1 f))
  | c => c
def renV1 (f : Nat → Nat) : AV → AV
  | .agg cs => .agg (cs.map (renC f))
  | c => renC f c
def renV (f : Nat → Nat) : AV → AV
  | .tup cs => .tup (cs.map (renV1 f))
  | c => renV1 f c
def renO (f : Nat → Nat) (o : Ob) : Ob := if o.arr then o else { o with xs := o.xs.map (renV1 f) }
def idx (x : Nat) : List Nat → Nat
  | [] => 0
  | y :: l => if x == y then 0 else idx x l + 1
/-- A callee's number of an object, and its caller's. -/
def outI (ids : List Nat) (n : Nat) (r : Nat) : Nat := if r < ids.length then ids.getD r 0 else n + (r - ids.length)
/-- The objects that a call sees. -/
def pick (g : Gs) (l : List Nat) : Option Gs := allSome (fun r => g[r]?) l
/-- Its objects come back. -/
def back (f : Nat → Nat) (g : Gs) : List Nat → Gs → Gs
  | [], os => g ++ os.map (renO f)
  | r :: l, o :: os => back f (g.set r (renO f o)) l os
  | _ :: _, [] => g

/-! ### Operations other than calls -/
def intOp (op : BinOp) (k : IntKind) (a b : Int) : Option AV :=
  match op with
  | .add => some (.int k (k.wrap (a + b)))
  | .sub => some (.int k (k.wrap (a - b)))
  | .mul => some (.int k (k.wrap (a * b)))
  | .quo => if b = 0 then none else some (.int k (k.wrap (a.tdiv b)))
  | .rem => if b = 0 then none else some (.int k (a.tmod b))
  | .and => some (.int k (k.wrap ((BitVec.ofInt k.bits a &&& BitVec.ofInt k.bits b).toNat : Int)))
  | .or => some (.int k (k.wrap ((BitVec.ofInt k.bits a ||| BitVec.ofInt k.bits b).toNat : Int)))
  | .xor => some (.int k (k.wrap ((BitVec.ofInt k.bits a ^^^ BitVec.ofInt k.bits b).toNat : Int)))
  | .andNot => some (.int k (k.wrap ((BitVec.ofInt k.bits a &&& ~~~ BitVec.ofInt k.bits b).toNat : Int)))
  | .eql => some (.bool (a == b))
  | .neq => some (.bool (a != b))
  | .lss => some (.bool (a < b))
  | .leq => some (.bool (a ≤ b))
  | .gtr => some (.bool (a > b))
  | .geq => some (.bool (a ≥ b))
  | _ => none
def strOp (op : BinOp) (a b : List UInt8) : Option AV :=
  match op with
  | .add => if a.length + b.length ≤ 9223372036854775807 then some (.str (a ++ b)) else none
  | .eql => some (.bool (a == b))
  | .neq => some (.bool (!(a == b)))
  | .lss => some (.bool (Op.bytesLess a b))
  | .leq => some (.bool (Op.bytesLess a b || a == b))
  | .gtr => some (.bool (!(Op.bytesLess a b || a == b)))
  | .geq => some (.bool (!(Op.bytesLess a b)))
  | _ => none
def eqOp (op : BinOp) (r : Bool) : Option AV :=
  match op with
  | .eql => some (.bool r)
  | .neq => some (.bool (!r))
  | _ => none
def binA (P : Program) (eqs : TypeId → Option (List SK)) (op : BinOp) (t : TypeId) (x y : AV) : Option AV :=
  match x, y with
  | .int k a, .int k' b =>
    match op with
    | .shl => if b < 0 then none else some (.int k (k.wrap (a * 2 ^ (min b.toNat k.bits))))
    | .shr => if b < 0 then none else some (.int k (a.fdiv (2 ^ (min b.toNat k.bits))))
    | _ => if k = k' then intOp op k a b else none
  | .str a, .str b => strOp op a b
  | .bool a, .bool b => match P.underlying t with | some .bool => eqOp op (a == b) | _ => none
  | .agg a, .agg b => (eqs t).bind fun sh => (eqCells sh a b).bind fun r => eqOp op r
  | x, y =>
    match P.underlying t, x, y with
    | some (.pointer _), .nilp, .nilp => eqOp op true
    | some (.pointer _), .lp .., .nilp | some (.pointer _), .gp .., .nilp | some (.pointer _), .rp .., .nilp => eqOp op false
    | some (.pointer _), .nilp, .lp .. | some (.pointer _), .nilp, .gp .. | some (.pointer _), .nilp, .rp .. => eqOp op false
    | some (.slice _), .nils, .nils => eqOp op true
    | some (.slice _), .sl .., .nils | some (.slice _), .ls .., .nils | some (.slice _), .gs .., .nils => eqOp op false
    | some (.func _ _ _), .nilf, .nilf => eqOp op true
    | some (.func _ _ _), .fn .., .nilf => eqOp op false
    | some (.map _ _), .nilm, .nilm => eqOp op true
    | _, _, _ => none
def unA (op : UnOp) (x : AV) : Option AV :=
  match op, x with
  | .neg, .int k n => some (.int k (k.wrap (0 - n)))
  | .xor, .int k n => intOp .xor k (if k.signed then -1 else k.max) n
  | .not, .bool b => some (.bool (!b))
  | _, _ => none
def rowOf (l : Ls) (g : Gs) (v : AV) : Option (List AV × Fp) :=
  match v with
  | .nils => some ([], .no)
  | .sl _ _ xs => some (xs, .no)
  | .ls d ver i n =>
    match lo l d with
    | .ob v o => if v = ver ∧ o.arr ∧ i + n ≤ o.xs.length then some ((o.xs.drop i).take n, .r d) else none
    | _ => none
  | .gs r i n => (g[r]?).bind fun o => if o.arr ∧ i + n ≤ o.xs.length then some ((o.xs.drop i).take n, .gr) else none
  | _ => none
def bytesOfA : List AV → Option (List UInt8)
  | [] => some []
  | .int .u8 n :: l => (bytesOfA l).bind fun r => some (UInt8.ofNat n.toNat :: r)
  | _ => none
def convA (P : Program) (src dst : TypeId) (x : AV) (l : Ls) (g : Gs) : Option (AV × Fp) :=
  match P.underlying src, P.underlying dst, x with
  | some _, some (.int k), .int _ n => some (.int k (k.wrap n), .no)
  | some .string, some .string, .str s => some (.str s, .no)
  | some (.slice e), some .string, x =>
    match P.underlying e with
    | some (.int .u8) => (rowOf l g x).bind fun (xs, fp) => (bytesOfA xs).bind fun b => some (.str b, fp)
    | _ => none
  | _, _, _ => none
def natOf : AV → Option Nat
  | .int _ n => if 0 ≤ n then some n.toNat else none
  | _ => none
def boundA (y : Nat) : Option AV → Nat → Option Nat
  | none, d => some d
  | some v, _ => (natOf v).bind fun n => if n ≤ y then some n else none
def sliceA (P : Program) (t : TypeId) (x : AV) (lo' hi' : Option AV) (l : Ls) (g : Gs) : Option (AV × Fp) :=
  match P.underlying t, x with
  | some .string, .str s =>
    (boundA s.length hi' s.length).bind fun h => (boundA h lo' 0).bind fun a => some (.str ((s.drop a).take (h - a)), .no)
  | some (.slice e), .nils => (szP P e).bind fun _ => (boundA 0 hi' 0).bind fun h => (boundA h lo' 0).bind fun _ => some (.nils, .no)
  | some (.slice e), .sl k ex xs =>
    if szP P e = some k then (boundA xs.length hi' xs.length).bind fun h => (boundA h lo' 0).bind fun a => some (.sl k (ex && h == xs.length) ((xs.drop a).take (h - a)), .no) else none
  | some (.slice e), .ls d ver i n =>
    match lo l d with
    | .ob v o =>
      if v = ver ∧ szP P e = some o.k then
        (boundA n hi' n).bind fun h => (boundA h lo' 0).bind fun a => if a = h then some (.sl o.k false [], .r d) else some (.ls d ver (i + a) (h - a), .r d)
      else none
    | _ => none
  | some (.slice e), .gs r i n =>
    (g[r]?).bind fun o => if o.arr ∧ szP P e = some o.k then
      (boundA n hi' n).bind fun h => (boundA h lo' 0).bind fun a => if a = h then some (.sl o.k false [], .gr) else some (.gs r (i + a) (h - a), .gr)
    else none
  | _, _ => none
def movA (a : AV) (j : Nat) : Option AV :=
  match a with
  | .lp d ver i j' => some (.lp d ver i (j' + j))
  | .gp r i j' => some (.gp r i (j' + j))
  | .rp x j' => some (.rp x (j' + j))
  | _ => none
def fieldAddrA (P : Program) (t : TypeId) (a : AV) (f : Nat) : Option AV :=
  match P.underlying t with
  | some (.struct fs) => (fs[f]?).bind fun fd => (szP P fd.type).bind fun s => if s = 0 then none else movA a fd.offset
  | _ => none
def indexAddrA (P : Program) (t : TypeId) (x i : AV) (l : Ls) (g : Gs) : Option (AV × Fp) :=
  (natOf i).bind fun n =>
  match P.underlying t, x with
  | some (.array len e), x => if n < len then (szP P e).bind fun s => (movA x (n * s)).bind fun a => some (a, .no) else none
  | some (.slice e), .ls d ver o m =>
    match lo l d with
    | .ob v ob => if v = ver ∧ ob.arr ∧ n < m ∧ szP P e = some ob.k then some (.lp d ver (o + n) 0, .r d) else none
    | _ => none
  | some (.slice e), .sl k _ xs => if szP P e = some k then (xs[n]?).bind fun x => some (.rp x 0, .no) else none
  | some (.slice e), .gs r o m => (g[r]?).bind fun ob => if ob.arr ∧ n < m ∧ szP P e = some ob.k then (ob.xs[o + n]?).bind fun x => some (.rp x 0, .gr) else none
  | _, _ => none
def indexA (P : Program) (t : TypeId) (x i : AV) : Option AV :=
  (natOf i).bind fun n =>
  match P.underlying t, x with
  | some (.array len e), .agg cs => if n < len then (szP P e).bind fun s => (aggP P e).bind fun ag => partA cs (n * s) s ag else none
  | some .string, .str s => (s[n]?).bind fun b => some (.int .u8 b.toNat)
  | _, _ => none
def fieldA (P : Program) (t : TypeId) (x : AV) (f : Nat) : Option AV :=
  match P.underlying t, x with
  | some (.struct fs), .agg cs => (fs[f]?).bind fun fd => (szP P fd.type).bind fun s => (aggP P fd.type).bind fun ag => partA cs fd.offset s ag
  | _, _ => none
/-- Parts at their places. -/
def fillA (place : Nat → Option (Nat × Nat)) : List (Nat × AV) → List AV → Option (List AV)
  | [], cs => some cs
  | (i, v) :: rest, cs =>
    (place i).bind fun (off, size) =>
      if v.known ∧ v.cells.length = size ∧ off + size ≤ cs.length then fillA place rest (cs.take off ++ v.cells ++ cs.drop (off + size)) else none
def buildA (P : Program) (t : TypeId) (parts : List (Nat × AV)) : Option AV :=
  (zeroP P t).bind fun z =>
  if !z.known then none else
  match P.underlying t with
  | some (.struct fs) => (allSome (fun f : Field => (P.info? f.type).map fun i => (f.offset, i.size)) fs.toList).bind fun pl => (fillA (pl[·]?) parts z.cells).bind fun cs => some (.agg cs)
  | some (.array _ e) => (szP P e).bind fun s => (fillA (fun i => some (i * s, s)) parts z.cells).bind fun cs => some (.agg cs)
  | _ => none
def fillS (k : Nat) : List (Nat × AV) → List AV → Option (List AV)
  | [], xs => some xs
  | (i, v) :: rest, xs => if v.known ∧ v.cells.length = k ∧ i < xs.length then fillS k rest (xs.set i v) else none
def partsA (ρ : Operand → Option AV) : List (Nat × Operand) → Option (List (Nat × AV))
  | [] => some []
  | (i, x) :: l => (ρ x).bind fun v => (partsA ρ l).bind fun r => some ((i, v) :: r)
def optA (ρ : Operand → Option AV) : Option Operand → Option (Option AV)
  | none => some none
  | some x => (ρ x).bind fun v => some (some v)
/-- What is stored into an object. -/
def storeA (l : Ls) (g : Gs) (s : Nat) (a v : AV) : Option R :=
  if v.known ∧ v.cells.length = s then
    match a with
    | .lp d ver i j =>
      match lo l d with
      | .ob w o => if w = ver then (writeO o i j v.cells).bind fun o' => some ⟨.tup [], loPut l d (.ob w o'), g, .w d, []⟩ else none
      | .fwd w r =>
        if w = ver then
          (expV true v ⟨l, g, .no⟩).bind fun (v, x) => (x.g[r]?).bind fun o => (writeO o i j v.cells).bind fun o' => some ⟨.tup [], x.l, x.g.set r o', x.fp.add ((Fp.r d).add .gw), [r]⟩
        else none
      | .gone _ => none
    | .gp r i j => (expV true v ⟨l, g, .no⟩).bind fun (v, x) => (x.g[r]?).bind fun o => (writeO o i j v.cells).bind fun o' => some ⟨.tup [], x.l, x.g.set r o', x.fp.add .gw, [r]⟩
    | _ => none
  else none
/-- What is appended. -/
def srcA (P : Program) (e : TypeId) (tx : TypeDesc) (x : AV) (l : Ls) (g : Gs) : Option (List AV × Fp) :=
  match tx with
  | .slice e' => if e' = e then rowOf l g x else none
  | .string => match x, P.underlying e with
    | .str b, some (.int .u8) => some (b.map fun (c : UInt8) => AV.int .u8 c.toNat, Fp.no)
    | _, _ => none
  | _ => none
/-- The slice is this whole row: what grows. -/
def appendA (P : Program) (t ty : TypeId) (s x : AV) (dst : Option Nat) (l : Ls) (g : Gs) : Option R :=
  match P.underlying t, P.underlying ty with
  | some (.slice e), some tx =>
    (szP P e).bind fun k => (byP P e).bind fun by_ => (zeroP P e).bind fun z =>
    if !(z.known && z.cells.length == k) then none else
    (srcA P e tx x l g).bind fun (ys, fp) =>
    if ys.all (fun y => y.good && y.cells.length == k) then
    match s with
    | .nils =>
      if ys.isEmpty then some ⟨.nils, l, g, fp, []⟩
      else dst.bind fun d => if ys.length * by_ ≤ 140737488355328 ∧ ys.length ≤ 9223372036854775807 then
          let (v, l') := newL l d ⟨k, true, false, true, ys⟩
          some ⟨.ls d v 0 ys.length, l', g, fp.add (.w d), []⟩
        else none
    | .sl k' true xs =>
      if k' = k ∧ xs.isEmpty then
        if ys.isEmpty then some ⟨.sl k true [], l, g, fp, []⟩
        else dst.bind fun d => if ys.length * by_ ≤ 140737488355328 ∧ ys.length ≤ 9223372036854775807 then
            let (v, l') := newL l d ⟨k, true, false, true, ys⟩
            some ⟨.ls d v 0 ys.length, l', g, fp.add (.w d), []⟩
          else none
      else none
    | .ls d ver i n =>
      match lo l d with
      | .ob w o =>
        if w = ver ∧ o.arr ∧ o.ok ∧ i = 0 ∧ n = o.xs.length ∧ k = o.k ∧ (n + ys.length) * by_ ≤ 140737488355328 ∧ n + ys.length ≤ 9223372036854775807 then
          some ⟨.ls d (ver + 1) 0 (n + ys.length), loPut l d (.ob (ver + 1) { o with xs := o.xs ++ ys }), g, fp.add (.w d), []⟩
        else none
      | _ => none
    | .gs r i n =>
      (g[r]?).bind fun o =>
        if o.arr ∧ i = 0 ∧ n = o.xs.length ∧ k = o.k ∧ (n + ys.length) * by_ ≤ 140737488355328 ∧ n + ys.length ≤ 9223372036854775807 then
          some ⟨.gs r 0 (n + ys.length), l, g.set r { o with xs := o.xs ++ ys }, fp.add .gw, [r]⟩
        else none
    | _ => none
    else none
  | _, _ => none
def lenA (P : Program) (t : TypeId) (x : AV) : Option AV :=
  match P.underlying t, x with
  | some .string, .str s => some (.int .i64 s.length)
  | some (.array n _), _ => some (.int .i64 n)
  | some (.slice _), .nils => some (.int .i64 0)
  | some (.slice _), .sl _ _ xs => some (.int .i64 xs.length)
  | some (.slice _), .ls _ _ _ n => some (.int .i64 n)
  | some (.slice _), .gs _ _ n => some (.int .i64 n)
  | _, _ => none
def minmaxA (mx : Bool) : AV → List AV → Option AV
  | v, [] => some v
  | .int k a, .int k' b :: l => if k = k' then minmaxA mx (.int k (if mx then (if b > a then b else a) else (if b < a then b else a))) l else none
  | _, _ => none
def ret1 (v : Option AV) (l : Ls) (g : Gs) : Option R := v.bind fun v => some ⟨v, l, g, .no, []⟩
def ret2 (v : Option (AV × Fp)) (l : Ls) (g : Gs) : Option R := v.bind fun (v, fp) => some ⟨v, l, g, fp, []⟩
def new1 (dst : Option Nat) (l : Ls) (g : Gs) (o : Ob) (mk : Nat → Nat → AV) : Option R :=
  dst.bind fun d => let (v, l') := newL l d o; some ⟨mk d v, l', g, .w d, []⟩
def aop (P : Program) (eqs : TypeId → Option (List SK)) (o : Oper) (ρ : Operand → Option AV) (l : Ls) (g : Gs) : Option R :=
  match o.op with
  | .move x => ret1 (ρ x) l g
  | .assign x => ret1 (ρ x) l g
  | .pick c a b => (ρ c).bind fun | .bool t => ret1 (ρ (if t then a else b)) l g | _ => none
  | .alloc t => (zeroP P t).bind fun z => if !z.known then none else new1 o.dst l g ⟨z.cells.length, false, false, false, [z]⟩ fun d v => .lp d v 0 0
  | .box _ x => (ρ x).bind fun z => if z.known then new1 o.dst l g ⟨z.cells.length, false, false, false, [z]⟩ fun d v => .lp d v 0 0 else none
  | .build t parts => (partsA ρ parts.toList).bind fun ps => ret1 (buildA P t ps) l g
  | .buildSlice t n parts =>
    match P.underlying t with
    | some (.slice e) =>
      (partsA ρ parts.toList).bind fun ps => (zeroP P e).bind fun z => (szP P e).bind fun k =>
      if z.known ∧ z.cells.length = k ∧ 0 < k ∧ n * k ≤ 16777216 then
        (fillS k ps (List.replicate n z)).bind fun xs => new1 o.dst l g ⟨k, true, false, xs.all AV.good, xs⟩ fun d v => .ls d v 0 n
      else none
    | _ => none
  | .load t a => (szP P t).bind fun s => (aggP P t).bind fun ag => (ρ a).bind fun a => ret2 (loadA l g s ag a) l g
  | .store t a x => (szP P t).bind fun s => (ρ a).bind fun a => (ρ x).bind fun x => storeA l g s a x
  | .nilCheck x => (ρ x).bind fun v => match v with | .lp .. | .gp .. | .rp .. | .fn .. => some ⟨v, l, g, .no, []⟩ | _ => none
  | .binOp op t x y _ => (ρ x).bind fun x => (ρ y).bind fun y => ret1 (binA P eqs op t x y) l g
  | .unOp op _ x => (ρ x).bind fun x => ret1 (unA op x) l g
  | .convert src dst x => (ρ x).bind fun x => ret2 (convA P src dst x l g) l g
  | .makeFunc (.func f) first cap => (allSome ρ first.toList).bind fun fs => (allSome ρ cap.toList).bind fun cs => if fs.all AV.good ∧ cs.all AV.isCell then some ⟨.fn f fs cs, l, g, .no, []⟩ else none
  | .makeSlice t n c =>
    match P.underlying t with
    | some (.slice e) =>
      (ρ n).bind fun n => (ρ c).bind fun c => (natOf n).bind fun n => (natOf c).bind fun c => (zeroP P e).bind fun z => (szP P e).bind fun k => (byP P e).bind fun by_ =>
      if z.known ∧ z.good ∧ z.cells.length = k ∧ 0 < k ∧ n ≤ c ∧ by_ * c ≤ 281474976710656 ∧ c ≤ 9223372036854775807 then
        new1 o.dst l g ⟨k, true, false, true, List.replicate n z⟩ fun d v => .ls d v 0 n
      else none
    | _ => none
  | .slice t x a b c => match c with
    | none => (ρ x).bind fun x => (optA ρ a).bind fun a => (optA ρ b).bind fun b => ret2 (sliceA P t x a b l g) l g
    | some _ => none
  | .fieldAddr t x f => (ρ x).bind fun x => ret1 (fieldAddrA P t x f) l g
  | .field t x f => (ρ x).bind fun x => ret1 (fieldA P t x f) l g
  | .indexAddr t x i => (ρ x).bind fun x => (ρ i).bind fun i => ret2 (indexAddrA P t x i l g) l g
  | .index t x i => (ρ x).bind fun x => (ρ i).bind fun i => ret1 (indexA P t x i) l g
  | .extract x i => (ρ x).bind fun | .tup vs => ret1 vs[i]? l g | _ => none
  | .call c =>
    match c.callee with
    | .builtin .len => match c.argTypes[0]?, c.args[0]? with | some t, some x => (ρ x).bind fun x => ret1 (lenA P t x) l g | _, _ => none
    | .builtin .append =>
      match c.argTypes[0]?, c.argTypes[1]?, c.args[0]?, c.args[1]? with
      | some t, some ty, some s, some x => if c.argTypes.size = 2 ∧ c.args.size = 2 then (ρ s).bind fun s => (ρ x).bind fun x => appendA P t ty s x o.dst l g else none
      | _, _, _, _ => none
    | .builtin .max => match allSome ρ c.args.toList with | some (v :: vs) => ret1 (minmaxA true v vs) l g | _ => none
    | .builtin .min => match allSome ρ c.args.toList with | some (v :: vs) => ret1 (minmaxA false v vs) l g | _ => none
    | _ => none
  | _ => none

/-! ### Calls, regions, code -/
abbrev Caller := Nat → List AV → Gs → Option (AV × Gs × List Nat)
structure Orc where
  run : List AV → Option AV
  /-- its first argument is a row that it may write into: nobody else has it, and it is gone then -/
  eats : Bool
def opd (e : List AV) : Operand → Option AV
  | .tmp t => some (lget .dead e t)
  | .const v => ofValue v
  | .func f => some (.fn f [] [])
  | .global _ => none
/-- What a call hands back, in its caller's frame. -/
def impA (dst : Option Nat) (v : AV) (l : Ls) (g : Gs) (fp : Fp) (wg : List Nat) : Option R :=
  match v with
  | .own k fz xs => dst.bind fun d => let (w, l') := newL l d ⟨k, true, fz, true, xs⟩; some ⟨.ls d w 0 xs.length, l', g, fp.add (.w d), wg⟩
  | v => some ⟨v, l, g, fp, wg⟩
/-- An argument that is eaten: a whole row that nobody else has. -/
def eatA (v : AV) (l : Ls) : Option (AV × Ls × Fp) :=
  match v with
  | .nils => some (.nils, l, .no)
  | .sl k true [] => some (.sl k true [], l, .no)
  | .ls d ver i n =>
    match lo l d with
    | .ob w o => if w = ver ∧ o.arr ∧ o.ok ∧ !o.fz ∧ i = 0 ∧ n = o.xs.length then some (.own o.k false o.xs, loPut l d (.gone w), .w d) else none
    | _ => none
  | _ => none
def acall (orc : Nat → Option Orc) (call : Caller) (f : Nat) (args : List AV) (dst : Option Nat) (l : Ls) (g : Gs) : Option R :=
  match orc f with
  | some h =>
    if h.eats then
      match args with
      | a :: as => (mapS (expV false) as ⟨l, g, .no⟩).bind fun (as, x) => if as.all (fun a => (refsV a).isEmpty) then (eatA a x.l).bind fun (a, l', fp) => (h.run (a :: as)).bind fun v => impA dst v l' x.g (x.fp.add fp) [] else none
      | [] => none
    else (mapS (expV false) args ⟨l, g, .no⟩).bind fun (as, x) => if as.all (fun a => (refsV a).isEmpty) then (h.run as).bind fun v => impA dst v x.l x.g x.fp [] else none
  | none =>
    (mapS (expV false) args ⟨l, g, .no⟩).bind fun (as, x) =>
    let ids := reach x.g depthG (addNew [] (as.flatMap refsV))
    (pick x.g ids).bind fun gs =>
    if gs.all (fun o => (refsO o).all fun r => ids.any (· == r)) then
      (call f (as.map (renV (idx · ids))) (gs.map (renO (idx · ids)))).bind fun (v, g', w) =>
      if w.isEmpty ∧ g'.length = ids.length then
        if ids.isEmpty then (if (refsV v).isEmpty then impA dst v x.l x.g x.fp [] else none) else impA dst (renV (outI ids x.g.length) v) x.l x.g (x.fp.add .gr) []
      else impA dst (renV (outI ids x.g.length) v) x.l (back (outI ids x.g.length) x.g ids g') (x.fp.add .gw) (w.map (outI ids x.g.length))
    else none
def aoper (P : Program) (eqs : TypeId → Option (List SK)) (orc : Nat → Option Orc) (call : Caller) (o : Oper) (ρ : Operand → Option AV) (l : Ls) (g : Gs) : Option R :=
  match o.op with
  | .call c =>
    match c.callee with
    | .value f =>
      match ρ f with
      | some (.fn h fs cs) => (allSome ρ c.args.toList).bind fun as => acall orc call h (fs ++ as ++ cs) o.dst l g
      | _ => none
    | _ => aop P eqs o ρ l g
  | _ => aop P eqs o ρ l g
/-- w: the objects of G that have been written. -/
structure St where
  e : List AV
  l : Ls
  g : Gs
  w : List Nat
def putA (nt : Nat) (e : List AV) (dst : Option Nat) (v : AV) : Option (List AV) :=
  match dst with
  | none => some e
  | some d => if d < nt then some (lput .dead e d v) else none
/-- Is an operation wanted? -/
def wantA (ops : Array Oper) (e : List AV) (o : Oper) : Option Bool :=
  match o.guard with
  | none => some true
  | some (j, b) =>
    match (ops[j]?).bind (·.dst) with
    | none => some false
    | some d => match lget .dead e d with
      | .bool c => some (c == b)
      | .tup [] => some false
      | _ => none
def stepA (P : Program) (eqs : TypeId → Option (List SK)) (orc : Nat → Option Orc) (call : Caller) (nt : Nat) (ops : Array Oper) (o : Oper) (s : St) : Option (St × Fp) :=
  (wantA ops s.e o).bind fun w =>
  if w then (aoper P eqs orc call o (opd s.e) s.l s.g).bind fun r => (putA nt s.e o.dst r.v).bind fun e => some (⟨e, r.l, r.g, addNew s.w r.wg⟩, r.fp)
  else (putA nt s.e o.dst (.tup [])).bind fun e => some (⟨e, s.l, s.g, s.w⟩, .no)
def opsA (step : Oper → St → Option (St × Fp)) : List Oper → St → Option (St × List Fp)
  | [], s => some (s, [])
  | o :: l, s => (step o s).bind fun (s, fp) => (opsA step l s).bind fun (s, fps) => some (s, fp :: fps)
def namesT (o : Oper) : List Tmp := o.op.operands.toList.filterMap fun | .tmp t => some t | _ => none
def guardT (ops : Array Oper) (o : Oper) : List Tmp :=
  match o.guard with
  | none => []
  | some (j, _) => match (ops[j]?).bind (·.dst) with | some d => [d] | none => []
/-- Two operations that touch nothing of one another's temporaries. -/
def apartA (ops : Array Oper) (a b : Oper) : Bool :=
  let wa := a.dst.toList
  let wb := b.dst.toList
  !(meets wa (namesT b ++ guardT ops b ++ wb)) && !(meets wb (namesT a ++ guardT ops a))
/-- Each later operation waits for this one, or has nothing to do with it. -/
def freeA (ops : Array Oper) (i : Nat) (o : Oper) (fp : Fp) : List Oper → List Fp → Bool
  | [], _ => true
  | _, [] => true
  | b :: l, q :: qs => (b.after.any (fun e => e.on == i && Region.binds .any e) || (apartA ops o b && !(fp.clash q))) && freeA ops i o fp l qs
def noGc (o : Oper) : Bool := match o.op with | .select .. => false | _ => true
def lexA (ops : Array Oper) : Nat → List Oper → List Fp → Bool
  | _, [], [] => true
  | i, o :: l, fp :: fps => o.after.all (fun e => !(Region.binds .any e) || decide (e.on < i)) && freeA ops i o fp l fps && lexA ops (i + 1) l fps
  | _, _, _ => false
inductive Ex where
  | norm | exit (id : Nat) | ret
def regionA (step : Oper → St → Option (St × Fp)) (ops : Array Oper) (draw : Bool) (s : St) : Option (Ex × St) :=
  (opsA step ops.toList s).bind fun (s', fps) => if !draw || lexA ops 0 ops.toList fps then some (.norm, s') else none
def loopA (f : St → Option (Ex × St)) : Nat → St → Option (Ex × St)
  | 0, _ => none
  | n + 1, s => (f s).bind fun (x, s') => match x with | .norm => loopA f n s' | x => some (x, s')
def codeA (P : Program) (eqs : TypeId → Option (List SK)) (orc : Nat → Option Orc) (call : Caller) (rounds nt : Nat) : Code → St → Option (Ex × St)
  | .skip, s => some (.norm, s)
  | .region _ ops draw, s => regionA (stepA P eqs orc call nt ops) ops draw s
  | .seq a b, s => (codeA P eqs orc call rounds nt a s).bind fun (x, s) => match x with | .norm => codeA P eqs orc call rounds nt b s | x => some (x, s)
  | .cond c a b, s => (opd s.e c).bind fun | .bool t => if t then codeA P eqs orc call rounds nt a s else codeA P eqs orc call rounds nt b s | _ => none
  | .block id a, s => (codeA P eqs orc call rounds nt a s).bind fun (x, s) => match x with | .exit j => if j = id then some (.norm, s) else some (.exit j, s) | x => some (x, s)
  | .loop a, s => loopA (codeA P eqs orc call rounds nt a) rounds s
  | .exit id, s => some (.exit id, s)
  | .ret, s => some (.ret, s)
  | _, _ => none
/-- A result, out of its frame. -/
def outV (v : AV) (x : X) : Option (AV × X) :=
  match v with
  | .ls d ver i n =>
    match lo x.l d with
    | .ob w o => if w = ver ∧ o.arr ∧ o.ok ∧ i = 0 ∧ n = o.xs.length then some (.own o.k o.fz o.xs, ⟨loPut x.l d (.gone w), x.g, x.fp⟩) else expV false v x
    | _ => none
  | v => expV false v x
def resA (P : Program) (e : List AV) (l : Ls) (g : Gs) : ResultVar → Option AV
  | .tmp t => some (lget .dead e t)
  | .cell a t => (szP P t).bind fun s => (aggP P t).bind fun ag => (loadA l g s ag (lget .dead e a)).bind fun (v, _) => some v
def trimG (n : Nat) (v : AV) (g : Gs) : Gs :=
  if (refsV v).all (· < n) && (g.take n).all (fun o => (refsO o).all (· < n)) then g.take n else g
def doneA (P : Program) (rs : List ResultVar) (n : Nat) (s : St) : Option (AV × Gs × List Nat) :=
  (allSome (resA P s.e s.l s.g) rs).bind fun vs =>
  match vs with
  | [v] => (outV v ⟨s.l, s.g, .no⟩).bind fun (v, x) => some (v, trimG n v x.g, s.w.filter (· < n))
  | vs => (mapS (expV false) vs ⟨s.l, s.g, .no⟩).bind fun (vs, x) => some (.tup vs, trimG n (.tup vs) x.g, s.w.filter (· < n))
def bodyA (P : Program) (eqs : TypeId → Option (List SK)) (orc : Nat → Option Orc) (call : Caller) (rounds : Nat) (fn : Func) (args : List AV) (g : Gs) : Option (AV × Gs × List Nat) :=
  match fn.body with
  | none => none
  | some c =>
    if args.length ≤ fn.ntmps then
      (codeA P eqs orc call rounds fn.ntmps c ⟨args ++ List.replicate (fn.ntmps - args.length) .dead, [], g, []⟩).bind fun (x, s) =>
      match x with
      | .exit _ => none
      | _ => doneA P fn.results.toList g.length s
    else none
def aCall (P : Program) (eqs : TypeId → Option (List SK)) (orc : Nat → Option Orc) (rounds : Nat) : Nat → Caller
  | 0, _, _, _ => none
  | n + 1, f, args, g => (P.funcs[f]?).bind fun fn => bodyA P eqs orc (aCall P eqs orc rounds n) rounds fn args g
end Go.AE
