/- The abstract machine, part 2: its operations, its code, and the translation of the model's code into it. No conditions. -/
import Derived.Test.YtlmbobbefgcolaaEng1
namespace Go.Eng
open Go

inductive Opd where
  | s (i : Nat)
  | c (v : AV)

def rd (S : List AV) : Opd → AV
  | .s i => (S[i]?).getD .junk
  | .c v => v

def splice (l : List AV) (off : Nat) (c : List AV) : List AV := l.take off ++ c ++ l.drop (off + c.length)

/-- Operations that only look at slots. -/
inductive PAct where
  | mov (x : Opd)
  | pick (c a b : Opd)
  | bin (op : BinOp) (x y : Opd)
  | eqb (neg : Bool) (x y : Opd)
  | eqs (neg : Bool) (ks : List Bool) (x y : Opd)
  | isnil (neg : Bool) (x : Opd)
  | neg (x : Opd)
  | not (x : Opd)
  | build (zero : List AV) (parts : List (Nat × Nat × Opd))
  | part (off sz : Nat) (ag : Bool) (x : Opd)
  | aidx (n sz : Nat) (ag : Bool) (x i : Opd)
  | extr (i : Nat) (x : Opd)
  | len (x : Opd)
  | mm (mx : Bool) (x : Opd) (xs : List Opd)
  | idx (es : Nat) (x i : Opd)
  | fad (off : Nat) (x : Opd)
  | conv (k : IntKind) (x : Opd)
  | mkf (f : FuncId) (caps : List Opd)
  | slc (es : Nat) (x : Opd) (lo hi mx : Option Opd)
  | bget (chk : Option Nat) (b off sz : Nat) (ag : Bool)
  | bset (chk : Option Nat) (b off sz : Nat) (x : Opd)
  | bnew (x : Opd)
  | badr (chk : Option Nat) (b : Nat)
  | fail

def binI (op : BinOp) : AV → AV → Option AV
  | .int k a, .int k' b =>
    match op with
    | .shl => if b < 0 then none else some (.int k (k.wrap (a * 2 ^ (min b.toNat k.bits))))
    | .shr => if b < 0 then none else some (.int k (a.fdiv (2 ^ (min b.toNat k.bits))))
    | op => if k ≠ k' then none else
      match op with
      | .add => some (.int k (k.wrap (a + b)))
      | .sub => some (.int k (k.wrap (a - b)))
      | .mul => some (.int k (k.wrap (a * b)))
      | .quo => if b = 0 then none else some (.int k (k.wrap (a.tdiv b)))
      | .rem => if b = 0 then none else some (.int k (a.tmod b))
      | .and => some (.int k (k.wrap ((BitVec.ofInt k.bits a &&& BitVec.ofInt k.bits b).toNat : Int)))
      | .or => some (.int k (k.wrap ((BitVec.ofInt k.bits a ||| BitVec.ofInt k.bits b).toNat : Int)))
      | .xor => some (.int k (k.wrap ((BitVec.ofInt k.bits a ^^^ BitVec.ofInt k.bits b).toNat : Int)))
      | .andNot => some (.int k (k.wrap ((BitVec.ofInt k.bits a &&& ~~~(BitVec.ofInt k.bits b)).toNat : Int)))
      | .eql => some (.bool (a == b))
      | .neq => some (.bool (a != b))
      | .lss => some (.bool (decide (a < b)))
      | .leq => some (.bool (decide (a ≤ b)))
      | .gtr => some (.bool (decide (b < a)))
      | .geq => some (.bool (decide (b ≤ a)))
      | .shl | .shr => none
  | _, _ => none

/-- Structs cell by cell; 'true': a number, 'false': a truth value. -/
def eqc : List Bool → List AV → List AV → Option Bool
  | [], [], [] => some true
  | true :: ks, .int k a :: xs, .int k' b :: ys => if k = k' then (eqc ks xs ys).map (fun r => (a == b) && r) else none
  | false :: ks, .bool a :: xs, .bool b :: ys => (eqc ks xs ys).map (fun r => (a == b) && r)
  | _, _, _ => none

def fillA : List (Nat × Nat × AV) → List AV → Option (List AV)
  | [], l => some l
  | (off, sz, v) :: r, l =>
    match v.cells? with
    | some c => if c.length = sz ∧ off + sz ≤ l.length then fillA r (splice l off c) else none
    | none => none

def partA (l : List AV) (off sz : Nat) (ag : Bool) : Option AV :=
  if off + sz ≤ l.length then (if ag then some (.agg ((l.drop off).take sz)) else (if sz = 1 then l[off]? else none)) else none

def mmA (mx : Bool) : AV → List AV → Option AV
  | x, [] => some x
  | .int k a, .int k' b :: r => if k = k' then mmA mx (.int k (if mx then max a b else min a b)) r else none
  | _, _ => none

def bnd (x : Option AV) (y : Nat) (d : Nat) : Option Nat :=
  match x with
  | none => some d
  | some (.int _ i) => if 0 ≤ i ∧ i ≤ y then some i.toNat else none
  | _ => none

def slcA (es : Nat) (x : AV) (lo hi mx : Option AV) : Option AV :=
  match x with
  | .nilS => match mx, bnd hi 0 0, bnd lo 0 0 with | none, some _, some _ => some .nilS | _, _, _ => none
  | .sl es' n off len full =>
    if es' ≠ es then none else
    match mx with
    | none =>
      match hi with
      | none => (bnd lo len 0).map fun l => .sl es n (off + l * es) (len - l) full
      | some h => (bnd (some h) len len).bind fun h => (bnd lo h 0).map fun l => .sl es n (off + l * es) (h - l) (full && (h == len))
    | some m => (bnd (some m) len len).bind fun m => match hi with
      | none => none
      | some h => (bnd (some h) m m).bind fun h => (bnd lo h 0).map fun l => .sl es n (off + l * es) (h - l) (h == m)
  | _ => none

def isCell : AV → Bool
  | .agg _ | .tuple _ | .junk | .adr => false
  | _ => true

/-- The content of a box after a store of 'x' into its cells from 'off' on. -/
def bput (old : AV) (off sz : Nat) (x : AV) : Option AV :=
  match x.cells? with
  | none => none
  | some c => if c.length ≠ sz then none else
    match old with
    | .agg l => if off + sz ≤ l.length then some (.agg (splice l off c)) else none
    | .junk | .tuple _ | .adr => none
    | _ => if off = 0 then (match c with | [y] => if isCell y then some y else none | _ => none) else none

def bgot (old : AV) (off sz : Nat) (ag : Bool) : Option AV :=
  match old with
  | .agg l => partA l off sz ag
  | .junk | .tuple _ | .adr => none
  | y => if off = 0 ∧ sz = 1 ∧ ag = false then some y else none

def isAdr : AV → Bool
  | .adr => true
  | _ => false

def chkd (chk : Option Nat) (S : List AV) : Bool :=
  match chk with
  | none => true
  | some t => isAdr (rd S (.s t))

def lenA : AV → Option AV
  | .nilS => some (I 0)
  | .sl _ _ _ len _ => some (I len)
  | _ => none

def idxA (es : Nat) : AV → AV → Option AV
  | .sl _ n off len _, .int _ j => if 0 ≤ j ∧ j < len then some (.ptr n (off + j.toNat * es)) else none
  | _, _ => none

def pval : PAct → List AV → Option AV
  | .mov x, S => some (rd S x)
  | .pick c a b, S => match rd S c with | .bool t => some (if t then rd S a else rd S b) | _ => none
  | .bin op x y, S => binI op (rd S x) (rd S y)
  | .eqb neg x y, S => match rd S x, rd S y with | .bool a, .bool b => some (.bool (if neg then !(a == b) else a == b)) | _, _ => none
  | .eqs neg ks x y, S => match rd S x, rd S y with | .agg a, .agg b => (eqc ks a b).map fun r => .bool (if neg then !r else r) | _, _ => none
  | .isnil neg x, S => match rd S x with
    | .nilS => some (.bool (!neg))
    | .sl .. => some (.bool neg)
    | _ => none
  | .neg x, S => match rd S x with | .int k a => some (.int k (k.wrap (0 - a))) | _ => none
  | .not x, S => match rd S x with | .bool a => some (.bool (!a)) | _ => none
  | .build zero parts, S => (fillA (parts.map fun p => (p.1, p.2.1, rd S p.2.2)) zero).map .agg
  | .part off sz ag x, S => match rd S x with | .agg l => partA l off sz ag | _ => none
  | .aidx n sz ag x i, S => match rd S x, rd S i with | .agg l, .int _ j => if 0 ≤ j ∧ j < n then partA l (j.toNat * sz) sz ag else none | _, _ => none
  | .extr i x, S => match rd S x with | .tuple l => l[i]? | _ => none
  | .len x, S => lenA (rd S x)
  | .mm mx x xs, S => mmA mx (rd S x) (xs.map (rd S))
  | .idx es x i, S => idxA es (rd S x) (rd S i)
  | .fad off x, S => match rd S x with | .ptr n o => some (.ptr n (o + off)) | _ => none
  | .conv k x, S => match rd S x with | .int _ a => some (.int k (k.wrap a)) | _ => none
  | .mkf f caps, S => some (.fn f (caps.map (rd S)))
  | .slc es x lo hi mx, S => slcA es (rd S x) (lo.map (rd S)) (hi.map (rd S)) (mx.map (rd S))
  | .bget chk b off sz ag, S => if chkd chk S then bgot (rd S (.s b)) off sz ag else none
  | .bset chk b off sz x, S => if chkd chk S then bput (rd S (.s b)) off sz (rd S x) else none
  | .bnew x, S => match (rd S x).cells? with | some _ => some (rd S x) | none => none
  | .badr chk b, S => if chkd chk S then (match (rd S (.s b)).cells? with | some _ => some .adr | none => none) else none
  | .fail, _ => none

/-- Operations that look at the heap. -/
inductive LAct where
  | ld (sz : Nat) (ag : Bool) (p : Opd)
  | lenm (x : Opd)
  | look (zero : AV) (ok : Bool) (x key : Opd)

def cellsAt (H : AHeap) (n off cnt : Nat) : Option (List AV) :=
  match H[n]? with
  | some (.cells _ l) => if off + cnt ≤ l.length then some ((l.drop off).take cnt) else none
  | _ => none

/-- Maps: keys are integers. -/
def findK (k : Int) : List (AV × AV) → Option AV
  | [] => none
  | (.int .i64 j, v) :: r => if k = j then some v else findK k r
  | _ => none

def ldA (sz : Nat) (ag : Bool) (p : AV) (H : AHeap) : Option AV :=
  match p with
  | .ptr n off => match H[n]? with
    | some (.cells _ l) => partA l off sz ag
    | _ => none
  | _ => none

def lval : LAct → List AV → AHeap → Option AV
  | .ld sz ag p, S, H => ldA sz ag (rd S p) H
  | .lenm x, S, H => match rd S x with
    | .nilM => some (I 0)
    | .mp n => match H[n]? with | some (.mp l) => some (I l.length) | _ => none
    | _ => none
  | .look zero ok x key, S, H => match rd S x, rd S key with
    | .mp n, .int .i64 k => match H[n]? with
      | some (.mp l) => if l.all (fun p => match p.1 with | .int .i64 _ => true | _ => false) then
          (match findK k l with | some v => some (if ok then .tuple [v, .bool true] else v) | none => some (if ok then .tuple [zero, .bool false] else zero)) else none
      | _ => none
    | .nilM, .int .i64 _ => some (if ok then .tuple [zero, .bool false] else zero)
    | _, _ => none

/-- Operations that write the heap. -/
inductive HAct where
  | st (sz : Nat) (p x : Opd)
  | newv (x : Opd)
  | mks (es : Nat) (zero : List AV) (len cap : Opd)
  | blds (es n : Nat) (zero : List AV) (parts : List (Nat × Nat × Opd))
  | app (es : Nat) (x y : Opd)
  | cpy (es : Nat) (x y : Opd)
  | clr (es : Nat) (zero : List AV) (x : Opd)
  | mkm
  | mset (m k v : Opd)

def slCells (es : Nat) (H : AHeap) (x : AV) : Option (Nat × List AV) :=
  match x with
  | .nilS => some (0, [])
  | .sl es' n off len _ => if es' = es then (cellsAt H n off (len * es)).map fun l => (len, l) else none
  | _ => none

def lim : Nat := 2147483648

def appA (es : Nat) (H : AHeap) (x y : AV) : Option (AV × AHeap) :=
  match slCells es H y with
  | none => none
  | some (k, new) =>
    match x with
    | .nilS => if k = 0 then some (.nilS, H) else if k ≤ lim then some (.sl es H.length 0 k false, H ++ [.cells true new]) else none
    | .sl es' n off len full =>
      if k = 0 then some (x, H) else
      if es' = es ∧ len + k ≤ lim then
        match H[n]? with
        | some (.cells rw l) => if off + len * es ≤ l.length then
            (if full then some (.sl es H.length 0 (len + k) false, H ++ [.cells true ((l.drop off).take (len * es) ++ new)])
            else if rw then some (.sl es H.length 0 (len + k) false, H.set n .dead ++ [.cells true ((l.drop off).take (len * es) ++ new)])
            else none) else none
        | _ => none
      else none
    | _ => none

def repl (zero : List AV) : Nat → List AV
  | 0 => []
  | n + 1 => zero ++ repl zero n

def setK (k : Int) (v : AV) : List (AV × AV) → Option (List (AV × AV))
  | [] => some [(.int .i64 k, v)]
  | (.int .i64 j, u) :: r => if k = j then some ((.int .i64 k, v) :: r) else (setK k v r).map fun r => (.int .i64 j, u) :: r
  | _ => none

def hval : HAct → List AV → AHeap → Option (AV × AHeap)
  | .st sz p x, S, H => match rd S p, (rd S x).cells? with
    | .ptr n off, some c => match H[n]? with
      | some (.cells true l) => if c.length = sz ∧ off + sz ≤ l.length then some (undefA, H.set n (.cells true (splice l off c))) else none
      | _ => none
    | _, _ => none
  | .newv x, S, H => match (rd S x).cells? with
    | some c => some (.ptr H.length 0, H ++ [.cells true c])
    | none => none
  | .mks es zero len cap, S, H => match rd S len, rd S cap with
    | .int _ l, .int _ c => if 0 ≤ l ∧ l ≤ c ∧ c ≤ lim then some (.sl es H.length 0 l.toNat (l == c), H ++ [.cells true (repl zero c.toNat)]) else none
    | _, _ => none
  | .blds es n zero parts, S, H => match fillA (parts.map fun p => (p.1, p.2.1, rd S p.2.2)) (repl zero n) with
    | some l => some (.sl es H.length 0 n true, H ++ [.cells true l])
    | none => none
  | .app es x y, S, H => appA es H (rd S x) (rd S y)
  | .cpy es x y, S, H => match rd S x, slCells es H (rd S y) with
    | .nilS, some _ => some (I 0, H)
    | .sl es' n off len _, some (k, new) => if es' = es then match H[n]? with
        | some (.cells true l) => if off + len * es ≤ l.length then some (I (min k len : Nat), H.set n (.cells true (splice l off (new.take (min k len * es))))) else none
        | _ => none
      else none
    | _, _ => none
  | .clr es zero x, S, H => match rd S x with
    | .nilS => some (undefA, H)
    | .sl es' n off len _ => if len = 0 then some (undefA, H) else if es' = es then match H[n]? with
        | some (.cells true l) => if off + len * es ≤ l.length then some (undefA, H.set n (.cells true (splice l off (repl zero len)))) else none
        | _ => none
      else none
    | _ => none
  | .mkm, _, H => some (.mp H.length, H ++ [.mp []])
  | .mset m k v, S, H => match rd S m, rd S k with
    | .mp n, .int .i64 k => match H[n]? with
      | some (.mp l) => match setK k (rd S v) l with | some l' => some (undefA, H.set n (.mp l')) | none => none
      | _ => none
    | _, _ => none

inductive Act1 where
  | pu (p : PAct)
  | ld (l : LAct)
  | ha (h : HAct)
  | call (f : FuncId) (args : List Opd)
  | callv (x : Opd) (args : List Opd)

structure MOp where
  w : Option Nat
  sk : Option AV
  guard : Option (Nat × Bool)
  ext : Bool
  act : Act1

/-- The contract of a function over the abstract machine. -/
def ACalls (P : Program) (f : FuncId) (args : List AV) (H : AHeap) (v : AV) (H' : AHeap) : Prop :=
  (∃ fn, P.funcs[f]? = some fn ∧ (fn.name == "runtime.NumGoroutine") = false ∧ fn.body.isNone = false) ∧
  ∀ (ρ : Ren) (w : World) (cargs : Array Value), Sim ρ H w → LR ρ args cargs.toList →
    Calls P f cargs w fun e w' => ∃ ρ' cv, e = .returned cv ∧ VR ρ' v cv ∧ Sim ρ' H' w' ∧ Step ρ H w ρ' H' w'

def Act1.out (P : Program) : Act1 → List AV → AHeap → AV → AHeap → Prop
  | .pu p, S, H, v, H' => pval p S = some v ∧ H' = H
  | .ld l, S, H, v, H' => lval l S H = some v ∧ H' = H
  | .ha h, S, H, v, H' => hval h S H = some (v, H')
  | .call f args, S, H, v, H' => ACalls P f (args.map (rd S)) H v H'
  | .callv x args, S, H, v, H' => ∃ f cap, rd S x = .fn f cap ∧ ACalls P f (args.map (rd S) ++ cap) H v H'

def putS (S : List AV) (w : Option Nat) (v : AV) : List AV := match w with | some d => S.set d v | none => S

def wantedA (S : List AV) : Option (Nat × Bool) → Option Bool
  | none => some true
  | some (d, want) => match rd S (.s d) with
    | .bool b => some (b == want)
    | .tuple [] => some false
    | _ => none

def skipS (S : List AV) (o : MOp) : List AV := match o.sk with | some v => putS S o.w v | none => S

def AOps (P : Program) : List MOp → (List AV → AHeap → Prop) → List AV → AHeap → Prop
  | [], Q, S, H => Q S H
  | o :: r, Q, S, H =>
    match wantedA S o.guard with
    | none => False
    | some t => if t = true then ∃ v H', o.act.out P S H v H' ∧ (o.ext = true → H <+: H') ∧ AOps P r Q (putS S o.w v) H'
      else AOps P r Q (skipS S o) H

inductive MCode where
  | skip
  | ops (l : List MOp)
  | seq (a b : MCode)
  | cond (c : Opd) (a b : MCode)
  | block (id : Nat) (a : MCode)
  | loop (a : MCode)
  | exit (id : Nat)
  | cut (a : MCode)
  | ret
  | fail

inductive MX where
  | normal
  | exit (id : Nat)
  | ret

abbrev Post := MX → List AV → AHeap → Prop

def MX.then (next : List AV → AHeap → Prop) (Q : Post) : Post
  | .normal, S, H => next S H
  | e, S, H => Q e S H
def MX.inBlock (id : Nat) (Q : Post) : Post
  | .exit id', S, H => if id' = id then Q .normal S H else Q (.exit id') S H
  | e, S, H => Q e S H

/-- At the head of a round all that is known is what 'L' lists. -/
def Has (S : List AV) (L : List (Nat × AV)) : Prop := ∀ p ∈ L, rd S (.s p.1) = p.2

def mk (n : Nat) (L : List (Nat × AV)) : List AV := L.foldl (fun S p => S.set p.1 p.2) (List.replicate n .junk)

/-- 'S0' knows nothing that 'S' does not. -/
def Forget (S S0 : List AV) : Prop := S0.length = S.length ∧ ∀ i : Nat, rd S0 (.s i) = .junk ∨ rd S0 (.s i) = rd S (.s i)

def AW (P : Program) : MCode → Post → List AV → AHeap → Prop
  | .skip, Q, S, H => Q .normal S H
  | .ops l, Q, S, H => AOps P l (fun S H => Q .normal S H) S H
  | .seq a b, Q, S, H => AW P a (MX.then (AW P b Q) Q) S H
  | .cond c a b, Q, S, H => match rd S c with
    | .bool t => if t = true then AW P a Q S H else AW P b Q S H
    | _ => False
  | .block id a, Q, S, H => AW P a (MX.inBlock id Q) S H
  | .loop a, Q, S, H => ∃ (J : Nat → List AV → AHeap → Prop), (∃ k S0, Forget S S0 ∧ J k S0 H) ∧
      ∀ k S H, J k S H → AW P a (MX.then (fun S' H' => ∃ k' S'', k' < k ∧ Forget S' S'' ∧ J k' S'' H') Q) S H
  | .cut a, Q, S, H => ∃ S0, Forget S S0 ∧ AW P a Q S0 H
  | .exit id, Q, S, H => Q (.exit id) S H
  | .ret, Q, S, H => Q .ret S H
  | .fail, _, _, _ => False

/-! The translation. -/

def trS : Value → Option AV
  | .bool b => some (.bool b)
  | .int k n => some (.int k n)
  | .slice none 0 0 => some .nilS
  | .pointer none => some .nilP
  | .nilFunc => some .nilF
  | .map none => some .nilM
  | _ => none

def trV : Value → Option AV
  | .agg cs => (cs.toList.mapM trS).map .agg
  | v => trS v

def trOpd (bx : List Nat) : Operand → Option Opd
  | .tmp t => if bx.contains t then none else some (.s t)
  | .const v => (trV v).map .c
  | .func f => some (.c (.fn f []))
  | .global _ => none

def tsize (P : Program) (t : TypeId) : Option Nat := (P.info? t).map (·.size)
def tagg (P : Program) (t : TypeId) : Option Bool :=
  match P.underlying t with
  | some (.struct _) | some (.array _ _) => some true
  | some _ => some false
  | none => none
def tzero (P : Program) (t : TypeId) : Option AV := (P.info? t).bind (fun i => i.zero.bind trV)
/-- The zero cells of an element type, of at least one cell and of no more than 65536 bytes. -/
def ezero (P : Program) (e : TypeId) : Option (List AV) :=
  match P.info? e with
  | some i => match (i.zero.bind trV).bind AV.cells? with
    | some l => if l.length = i.size ∧ 0 < i.size ∧ i.bytes ≤ 65536 then some l else none
    | none => none
  | none => none
def selem (P : Program) (t : TypeId) : Option TypeId := match P.underlying t with | some (.slice e) => some e | _ => none

/-- Fields that are numbers or truth values, one cell each, from cell 'k' on. -/
def flatFields (P : Program) : List Field → Nat → Option (List Bool)
  | [], _ => some []
  | f :: fs, k => if f.name != "_" && f.offset == k then
      match P.underlying f.type, flatFields P fs (k + 1) with
      | some (.int _), some r => some (true :: r)
      | some .bool, some r => some (false :: r)
      | _, _ => none
    else none

def eqStruct (P : Program) (t : TypeId) : Option (List Bool) :=
  match P.underlying t with
  | some (.struct fs) => if !P.stoodInHeld t && !P.eqGuardType P.depth t then flatFields P fs.toList 0 else none
  | _ => none

/-- Operation, slot, box, offset: the addresses of parts of boxes that a region makes. -/
abbrev BoxEnv := List (Nat × Nat × Nat × Nat)

def envFind (bx : List Nat) (E : BoxEnv) (t : Nat) : Option (Nat × Nat × Nat × Nat) := E.find? (fun e => e.2.1 == t && bx.contains e.2.2.1)

def addrOf (bx : List Nat) (E : BoxEnv) : Operand → Option (Option Nat × Nat × Nat)
  | .tmp t => if bx.contains t then some (none, t, 0) else (envFind bx E t).map fun e => (some t, e.2.2.1, e.2.2.2)
  | _ => none

def fieldOf (P : Program) (s : TypeId) (f : Nat) : Option Field :=
  match P.underlying s with
  | some (.struct fs) => fs[f]?
  | _ => none

def envOf (P : Program) (bx : List Nat) : List Oper → Nat → BoxEnv → BoxEnv
  | [], _, E => E
  | o :: r, j, E =>
    match o.op, o.dst with
    | .fieldAddr s a f, some d => match addrOf bx E a, fieldOf P s f with
      | some (_, b, off), some fd => envOf P bx r (j + 1) (E ++ [(j, d, b, off + fd.offset)])
      | _, _ => envOf P bx r (j + 1) E
    | _, _ => envOf P bx r (j + 1) E

def trParts (bx : List Nat) (place : Nat → Option (Nat × Nat)) (parts : List (Nat × Operand)) : Option (List (Nat × Nat × Opd)) :=
  parts.mapM fun p => do
    let q ← place p.1
    let x ← trOpd bx p.2
    pure (q.1, q.2, x)

def isDst (bx : List Nat) (d : Option Nat) : Bool := match d with | some d => bx.contains d | none => false

def trTwo (bx : List Nat) (x y : Operand) (f : Opd → Opd → Act1) : Option Act1 :=
  match trOpd bx x, trOpd bx y with
  | some x, some y => some (f x y)
  | _, _ => none

def isNilConst : Operand → Bool
  | .const (.slice none 0 0) => true
  | _ => false

def trBool (bx : List Nat) (op : BinOp) (x y : Operand) : Option Act1 :=
  match op with
  | .eql => trTwo bx x y fun x y => .pu (.eqb false x y)
  | .neq => trTwo bx x y fun x y => .pu (.eqb true x y)
  | _ => none

def trStruct (bx : List Nat) (ks : List Bool) (op : BinOp) (x y : Operand) : Option Act1 :=
  match op with
  | .eql => trTwo bx x y fun x y => .pu (.eqs false ks x y)
  | .neq => trTwo bx x y fun x y => .pu (.eqs true ks x y)
  | _ => none

def trNil (bx : List Nat) (op : BinOp) (x : Operand) : Option Act1 :=
  match op with
  | .eql => (trOpd bx x).map fun x => .pu (.isnil false x)
  | .neq => (trOpd bx x).map fun x => .pu (.isnil true x)
  | _ => none

def trBin (P : Program) (bx : List Nat) (op : BinOp) (t : TypeId) (x y : Operand) : Option Act1 :=
  match P.underlying t with
  | some (.int _) => trTwo bx x y fun x y => .pu (.bin op x y)
  | some .bool => trBool bx op x y
  | some (.struct _) => (eqStruct P t).bind fun ks => trStruct bx ks op x y
  | some (.slice _) => if isNilConst y then trNil bx op x else none
  | _ => none

def trBuiltin (P : Program) (bx : List Nat) (b : Builtin) (args : List Operand) (ts : List TypeId) : Option Act1 :=
  match b, args, ts with
  | .len, [x], [t] => match P.underlying t with
    | some (.slice _) => (trOpd bx x).map fun x => .pu (.len x)
    | some (.map _ _) => (trOpd bx x).map fun x => .ld (.lenm x)
    | _ => none
  | .append, [x, y], [t, u] => if t = u then (match selem P t with
      | some e => match ezero P e with
        | some z => do let x ← trOpd bx x; let y ← trOpd bx y; pure (.ha (.app z.length x y))
        | none => none
      | none => none) else none
  | .copy, [x, y], [t, u] => if t = u then (match selem P t with
      | some e => match ezero P e with
        | some z => do let x ← trOpd bx x; let y ← trOpd bx y; pure (.ha (.cpy z.length x y))
        | none => none
      | none => none) else none
  | .clear, [x], [t] => match selem P t with
      | some e => match ezero P e with
        | some z => (trOpd bx x).map fun x => .ha (.clr z.length z x)
        | none => none
      | none => none
  | .max, x :: xs, _ => do let x ← trOpd bx x; let xs ← xs.mapM (trOpd bx); pure (.pu (.mm true x xs))
  | .min, x :: xs, _ => do let x ← trOpd bx x; let xs ← xs.mapM (trOpd bx); pure (.pu (.mm false x xs))
  | _, _, _ => none

def trAct (P : Program) (bx : List Nat) (E : BoxEnv) (o : Oper) : Option Act1 :=
  match o.op with
  | .move x | .assign x => (trOpd bx x).map fun x => .pu (.mov x)
  | .pick c a b => do let c ← trOpd bx c; let a ← trOpd bx a; let b ← trOpd bx b; pure (.pu (.pick c a b))
  | .alloc t => (tzero P t).map fun z => if isDst bx o.dst then .pu (.bnew (.c z)) else .ha (.newv (.c z))
  | .box _ x => (trOpd bx x).map fun x => if isDst bx o.dst then .pu (.bnew x) else .ha (.newv x)
  | .build t parts => do
    let z ← ((P.info? t).bind (·.zero)).bind trV
    let zc ← z.cells?
    match P.underlying t with
    | some (.struct fs) => do
      let ps ← trParts bx (fun i => (fs[i]?).bind fun f => (tsize P f.type).map fun s => (f.offset, s)) parts.toList
      if fs.toList.all (fun f => (tsize P f.type).isSome) then pure (.pu (.build zc ps)) else none
    | some (.array _ e) => do
      let s ← tsize P e
      let ps ← trParts bx (fun i => some (i * s, s)) parts.toList
      pure (.pu (.build zc ps))
    | _ => none
  | .load t a => do
    let s ← tsize P t
    let ag ← tagg P t
    match addrOf bx E a with
    | some (chk, b, off) => pure (.pu (.bget chk b off s ag))
    | none => do let a ← trOpd bx a; pure (.ld (.ld s ag a))
  | .store t a x => do
    let s ← tsize P t
    let x ← trOpd bx x
    match addrOf bx E a with
    | some (chk, b, off) => pure (.pu (.bset chk b off s x))
    | none => do let a ← trOpd bx a; pure (.ha (.st s a x))
  | .fieldAddr s a f => do
    let fd ← fieldOf P s f
    let sz ← tsize P fd.type
    if sz = 0 then none else
    match addrOf bx E a with
    | some (chk, b, _) => pure (.pu (.badr chk b))
    | none => do let a ← trOpd bx a; pure (.pu (.fad fd.offset a))
  | .field t x f => do
    let fd ← fieldOf P t f
    let sz ← tsize P fd.type
    let ag ← tagg P fd.type
    let x ← trOpd bx x
    pure (.pu (.part fd.offset sz ag x))
  | .indexAddr t x i => do
    let e ← selem P t
    let s ← tsize P e
    let x ← trOpd bx x
    let i ← trOpd bx i
    pure (.pu (.idx s x i))
  | .index t x i => match P.underlying t with
    | some (.array n e) => do
      let s ← tsize P e
      let ag ← tagg P e
      let x ← trOpd bx x
      let i ← trOpd bx i
      pure (.pu (.aidx n s ag x i))
    | _ => none
  | .extract x i => (trOpd bx x).map fun x => .pu (.extr i x)
  | .binOp op t x y _ => trBin P bx op t x y
  | .unOp .neg _ x => (trOpd bx x).map fun x => .pu (.neg x)
  | .unOp .not _ x => (trOpd bx x).map fun x => .pu (.not x)
  | .convert src dst x => match P.underlying src, P.underlying dst with
    | some (.int _), some (.int k) => (trOpd bx x).map fun x => .pu (.conv k x)
    | _, _ => none
  | .makeFunc (.func f) first caps => if first.isEmpty then (caps.toList.mapM (trOpd bx)).map fun cs => .pu (.mkf f cs) else none
  | .slice t x lo hi mx => do
    let e ← selem P t
    let z ← ezero P e
    let x ← trOpd bx x
    let opt (y : Option Operand) : Option (Option Opd) := match y with | none => some none | some y => (trOpd bx y).map some
    let lo ← opt lo
    let hi ← opt hi
    let mx ← opt mx
    pure (.pu (.slc z.length x lo hi mx))
  | .makeSlice t l c => do
    let e ← selem P t
    let z ← ezero P e
    let l ← trOpd bx l
    let c ← trOpd bx c
    pure (.ha (.mks z.length z l c))
  | .buildSlice t n parts => do
    let e ← selem P t
    let z ← ezero P e
    if n * z.length > 65536 then none else
    let ps ← trParts bx (fun i => some (i * z.length, z.length)) parts.toList
    pure (.ha (.blds z.length n z ps))
  | .makeMap _ none => some (.ha .mkm)
  | .lookup t x k ok => match P.underlying t with
    | some (.map kt e) => match P.underlying kt with
      | some (.int .i64) => do
        let z ← tzero P e
        let x ← trOpd bx x
        let k ← trOpd bx k
        pure (.ld (.look z ok x k))
      | _ => none
    | _ => none
  | .mapUpdate t m k v => match P.underlying t with
    | some (.map kt _) => match P.underlying kt with
      | some (.int .i64) => do
        let m ← trOpd bx m
        let k ← trOpd bx k
        let v ← trOpd bx v
        pure (.ha (.mset m k v))
      | _ => none
    | _ => none
  | .call c => match c.callee with
    | .value (.func f) => (c.args.toList.mapM (trOpd bx)).map fun xs => .call f xs
    | .value x => do let x ← trOpd bx x; let xs ← c.args.toList.mapM (trOpd bx); pure (.callv x xs)
    | .builtin b => trBuiltin P bx b c.args.toList c.argTypes.toList
    | _ => none
  | _ => none

/-- The slot that an abstract operation writes. -/
def trW (bx : List Nat) (E : BoxEnv) (o : Oper) : Option Nat :=
  match o.op with
  | .store _ a _ => match addrOf bx E a with | some (_, b, _) => some b | none => o.dst
  | _ => o.dst

def trSk (bx : List Nat) (E : BoxEnv) (o : Oper) : Option AV :=
  match o.op with
  | .store _ a _ => match addrOf bx E a with | some _ => none | none => some undefA
  | _ => some (if isDst bx o.dst then .junk else undefA)

/-- A box is written by the operations that make it and by stores alone; a store has no slot of its own. -/
def dstOk (bx : List Nat) (o : Oper) : Bool :=
  match o.op with
  | .alloc _ | .box _ _ => true
  | .store _ _ _ => o.dst.isNone
  | _ => !isDst bx o.dst

def trGuard (ops : List Oper) (bx : List Nat) (o : Oper) : Option (Option (Nat × Bool)) :=
  match o.guard with
  | none => some none
  | some (j, want) => match (ops[j]?).bind (·.dst) with
    | some d => if bx.contains d then none else some (some (d, want))
    | none => none

/-- What a look at the heap takes for an address is no box and no address of the text's. -/
def okAddr (bx : List Nat) : Opd → Bool
  | .s i => !bx.contains i
  | .c (.ptr _ _) | .c (.mp _) => false
  | .c _ => true
def lactOk (bx : List Nat) : Act1 → Bool
  | .ld (.ld _ _ p) => okAddr bx p
  | .ld (.lenm x) => okAddr bx x
  | .ld (.look _ _ x _) => okAddr bx x
  | _ => true

def trOp (P : Program) (bx : List Nat) (E : BoxEnv) (ops : List Oper) (ext : Bool) (o : Oper) : Option MOp :=
  match trGuard ops bx o with
  | none => none
  | some g => if dstOk bx o && lactOk bx ((trAct P bx E o).getD (.pu .fail)) then some { w := trW bx E o, sk := trSk bx E o, guard := g, ext := ext, act := (trAct P bx E o).getD (.pu .fail) } else none

/-! What an operation looks at; which operations may change places. -/

def Opd.slots : Opd → List Nat
  | .s i => [i]
  | .c _ => []

def opSlots (xs : List Opd) : List Nat := xs.flatMap Opd.slots

def PAct.reads : PAct → List Nat
  | .mov x | .isnil _ x | .neg x | .not x | .part _ _ _ x | .extr _ x | .len x | .fad _ x | .conv _ x | .bnew x => x.slots
  | .pick a b c => opSlots [a, b, c]
  | .bin _ x y | .eqb _ x y | .eqs _ _ x y | .idx _ x y | .aidx _ _ _ x y => opSlots [x, y]
  | .build _ ps => opSlots (ps.map (·.2.2))
  | .mm _ x xs => opSlots (x :: xs)
  | .mkf _ xs => opSlots xs
  | .slc _ x a b c => opSlots (x :: (a.toList ++ b.toList ++ c.toList))
  | .bget chk b _ _ _ => b :: chk.toList
  | .bset chk b _ _ x => b :: chk.toList ++ x.slots
  | .badr chk b => b :: chk.toList
  | .fail => []

def LAct.reads : LAct → List Nat
  | .ld _ _ p => p.slots
  | .lenm x => x.slots
  | .look _ _ x k => opSlots [x, k]

def HAct.reads : HAct → List Nat
  | .st _ p x => opSlots [p, x]
  | .newv x => x.slots
  | .mks _ _ a b => opSlots [a, b]
  | .blds _ _ _ ps => opSlots (ps.map (·.2.2))
  | .app _ x y | .cpy _ x y => opSlots [x, y]
  | .clr _ _ x => x.slots
  | .mkm => []
  | .mset a b c => opSlots [a, b, c]

def Act1.reads : Act1 → List Nat
  | .pu p => p.reads
  | .ld l => l.reads
  | .ha h => h.reads
  | .call _ xs => opSlots xs
  | .callv x xs => opSlots (x :: xs)

def MOp.looks (m : MOp) : List Nat := m.act.reads ++ (m.guard.map (·.1)).toList

def Act1.cls : Act1 → Nat
  | .pu _ => 0
  | .ld _ => 1
  | _ => 2

/-- 'a' stands before 'b' in the text: may 'b' come first? -/
def indep (a b : MOp) : Bool :=
  (match a.w with | some d => !b.looks.contains d && b.w != some d | none => true) &&
  (match b.w with | some d => !a.looks.contains d | none => true) &&
  (match a.act.cls, b.act.cls with
   | 2, 2 => false
   | 2, 1 => a.ext
   | 1, 2 => b.ext
   | _, _ => true)

/-- For each operation the set (as bits) of those that must come before it. -/
def masks : List Oper → List Nat → List Nat
  | [], acc => acc
  | o :: r, acc => masks r (acc ++ [o.after.toList.foldl (fun s e => if Region.binds .any e then s ||| (1 <<< e.on) ||| (acc[e.on]?).getD 0 else s) 0])

def prec (draw : Bool) (ms : List Nat) (i j : Nat) : Bool := if draw then ((ms[i]?).getD 0).testBit j else decide (j < i)

def usesEnv (bx : List Nat) (E : BoxEnv) (o : Oper) : List Nat :=
  match o.op with
  | .load _ a | .store _ a _ | .fieldAddr _ a _ => match a with
    | .tmp t => if bx.contains t then [] else ((envFind bx E t).map (·.1)).toList
    | _ => []
  | _ => []

def isBnew (bx : List Nat) (o : Oper) : Option Nat :=
  match o.op, o.dst with
  | .alloc _, some d | .box _ _, some d => if bx.contains d then some d else none
  | _, _ => none

def regionOk (bx : List Nat) (E : BoxEnv) (ops : List Oper) (draw : Bool) (ms : List Nat) (l : List MOp) : Bool :=
  -- no slot is written twice
  (ops.zipIdx.all fun (o, i) => match o.dst with | some d => ops.zipIdx.all (fun (o', j) => i == j || o'.dst != some d) | none => true) &&
  -- edges lead back
  (ops.zipIdx.all fun (o, i) => o.after.toList.all fun e => !Region.binds .any e || decide (e.on < i)) &&
  -- an address of a part of a box is used after it is made, and the box is made before it
  (ops.zipIdx.all fun (o, i) => (usesEnv bx E o).all (fun j => prec draw ms i j)) &&
  (E.all fun e => ops.zipIdx.all fun (o, k) => match isBnew bx o with | some d => d != e.2.2.1 || prec draw ms e.1 k | none => true) &&
  (!draw || l.zipIdx.all fun (b, i) => l.zipIdx.all fun (a, j) => !decide (j < i) || prec draw ms i j || indep a b)

def needsExt (P : Program) (bx : List Nat) (E : BoxEnv) (ops : List Oper) (draw : Bool) (ms : List Nat) (i : Nat) : Bool :=
  draw && ops.zipIdx.any fun (o, j) => ((trAct P bx E o).getD (.pu .fail)).cls == 1 && !prec draw ms i j && !prec draw ms j i

def trRegion (P : Program) (bx : List Nat) (ops : List Oper) (draw : Bool) : Option (List MOp) :=
  let E := envOf P bx ops 0 []
  let ms := masks ops []
  match ops.zipIdx.mapM fun (o, i) => trOp P bx E ops (needsExt P bx E ops draw ms i) o with
  | none => none
  | some l => if regionOk bx E ops draw ms l then some l else none

/-- The number of the first region. -/
def firstId : Code → Option Nat
  | .region id _ _ => some id
  | .seq a b => match firstId a with | some i => some i | none => firstId b
  | .block _ a | .loop a => firstId a
  | _ => none

def cutsAt (cs : List Nat) (c : Code) : Bool := match firstId c with | some i => cs.contains i | none => false

def trC (P : Program) (bx cs : List Nat) : Code → Option MCode
  | .skip => some .skip
  | .region _ ops draw => (trRegion P bx ops.toList draw).map .ops
  | .seq a b => match trC P bx cs a, trC P bx cs b with
    | some ma, some mb => some (if cutsAt cs b then .seq ma (.cut mb) else .seq ma mb)
    | _, _ => none
  | .cond c a b => match trOpd bx c, trC P bx cs a, trC P bx cs b with
    | some c, some a, some b => some (.cond c a b)
    | _, _, _ => none
  | .block id a => (trC P bx cs a).map (.block id)
  | .loop a => (trC P bx cs a).map .loop
  | .exit id => some (.exit id)
  | .ret => some .ret
  | _ => some .fail

structure MFun where
  nt : Nat
  bx : List Nat
  res : List PAct
  body : MCode

def trRes (P : Program) (bx : List Nat) : ResultVar → Option PAct
  | .tmp t => if bx.contains t then none else some (.mov (.s t))
  | .cell a t => if bx.contains a then match tsize P t, tagg P t with
      | some s, some ag => some (.bget none a 0 s ag)
      | _, _ => none
    else none

def trF (P : Program) (bx cs : List Nat) (fn : Func) : Option MFun :=
  match fn.body with
  | none => none
  | some c => match trC P bx cs c, fn.results.toList.mapM (trRes P bx) with
    | some m, some rs => if bx.all (fun d => decide (fn.params.size + fn.nfree ≤ d ∧ d < fn.ntmps)) then some { nt := fn.ntmps, bx := bx, res := rs, body := m } else none
    | _, _ => none

def resL : List PAct → List AV → Option (List AV)
  | [], _ => some []
  | p :: ps, S => match pval p S, resL ps S with
    | some v, some vs => some (v :: vs)
    | _, _ => none

def resV (res : List PAct) (S : List AV) : Option AV :=
  match resL res S with
  | some [x] => some x
  | some xs => some (.tuple xs)
  | none => none

end Go.Eng
