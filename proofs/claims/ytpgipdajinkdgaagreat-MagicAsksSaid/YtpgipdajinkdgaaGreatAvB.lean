/- A part of the proof of MagicAsks: functions of the program, run by the evaluator. -/

/- The abstract evaluator: what an operation, a row of operations, a piece of code and a call come to. -/
import Derived.Test.YtpgipdajinkdgaaGreatAvA
namespace Go.Proofs.YtpgipdajinkdgaaGreatA
open Go Go.RowKit
set_option linter.all false
set_option linter.unusedSectionVars false
set_option linter.constructorNameAsVariable false
abbrev Env := List (Nat × AV)
def eget : Env → Nat → AV
  | [], _ => .bad
  | (k, x) :: r, t => bif Nat.beq k t then x else eget r t
def eput : Env → Nat → AV → Env
  | [], t, x => [(t, x)]
  | (k, y) :: r, t, x => bif Nat.beq k t then (k, x) :: r else (k, y) :: eput r t x
def aeval (E : Env) : Operand → AV
  | .tmp t => eget E t
  | .const v => ofV v
  | .global g => .sc (.pointer (some ⟨g, 0, none⟩))
  | .func f => .fn f []
def szOf (P : Program) (t : TypeId) : Option Nat := (P.info? t).map (·.size)
def aggB (P : Program) (t : TypeId) : Option Bool := (P.underlying t).map fun | .struct _ | .array _ _ => true | _ => false
def one : AV → Bool
  | .bad | .agg _ | .tup _ => false
  | .sc v => v.oneCell'
  | _ => true
def acells : AV → List AV
  | .agg cs => cs
  | x => [x]
def solid : AV → Bool
  | .agg _ => true
  | x => one x
def rdCells (cs : List AV) (off n : Nat) : Option (List AV) := if off + n ≤ cs.length then some ((cs.drop off).take n) else none
def rdVar (P : Program) (t : TypeId) (cs : List AV) (off : Nat) : Option AV :=
  match aggB P t, szOf P t with
  | some true, some n => (rdCells cs off n).map .agg
  | some false, some _ => cs[off]?
  | _, _ => none
def splice (cs : List AV) (off : Nat) (us : List AV) : List AV := cs.take off ++ us ++ cs.drop (off + us.length)
inductive Res where
  | val (x : AV)
  | new (x : AV) (blk : Blk)
  | upd (x : AV) (i : Nat) (blk : Blk)
def isSel : Op → Bool
  | .select _ _ => true
  | _ => false
def sop (P : Program) (ρ : Operand → AV) (o : Oper) : Option AV :=
  if (o.op.operands.all fun x => (toV (ρ x)).isSome) && !isSel o.op then
    match pureRun P (execOp (fun x => (toV (ρ x)).getD undef) o) with
    | some (.value v) => some (ofV v)
    | _ => none
  else none
def afill (place : Nat → Option (Nat × Nat)) (cells : List AV) : List (Nat × AV) → Option (List AV)
  | [] => some cells
  | (i, x) :: rest =>
    match place i with
    | none => none
    | some (off, size) =>
      if solid x && (acells x).length == size && off + size ≤ cells.length then afill place (splice cells off (acells x)) rest else none
def places (P : Program) : List Field → Option (List (Nat × Nat))
  | [] => some []
  | f :: fs => match szOf P f.type, places P fs with
    | some s, some l => some ((f.offset, s) :: l)
    | _, _ => none
def mkL (sz : Nat) : List (List AV) → AV
  | [] => .lst 0 []
  | r :: rs => .lst sz (r :: rs)
def blkAt (H : List Blk) (b ver : Nat) : Option Blk :=
  match H[b]? with
  | some blk => match blk.kind with
    | .cells => bif Nat.beq blk.ver ver then some blk else none
    | _ => none
  | none => none
def appAt (H : List Blk) (b ver : Nat) : Option Blk :=
  match H[b]? with
  | some blk => match blk.kind with
    | .app => bif Nat.beq blk.ver ver then some blk else none
    | _ => none
  | none => none
def aliAt (H : List Blk) (b ver : Nat) : Option Blk :=
  match H[b]? with
  | some blk => match blk.kind with
    | .ali => bif Nat.beq blk.ver ver then some blk else none
    | _ => none
  | none => none
def blkR (H : List Blk) (b ver : Nat) : Option Blk :=
  match blkAt H b ver with
  | some blk => some blk
  | none => match appAt H b ver with
    | some blk => some blk
    | none => aliAt H b ver
def elems (H : List Blk) : AV → Nat → Option (List AV × Nat)
  | .sc (.slice _ 0 _), _ => some ([], 0)
  | .z, _ => some ([], 0)
  | .lst sz rows, s => if sz = s then some (rows.flatten, rows.length) else if rows.isEmpty then some ([], 0) else none
  | .own b o len sz ver, s =>
    match blkAt H b ver with
    | some blk => if sz = s then (rdCells blk.cells (o * sz) (len * sz)).map fun l => (l, len) else none
    | none => none
  | _, _ => none
def aappend (P : Program) (H : List Blk) (t : TypeId) (s x : AV) : Option Res :=
  match P.underlying t with
  | some (.slice e) =>
    match P.info? e with
    | some i =>
      match i.zero with
      | some zv =>
        if 0 < i.size && zv.cells.size == i.size then
          match elems H x i.size with
          | some (cs, m) =>
            if cs.all one then
            match s with
            | .own b o len sz ver =>
              match blkAt H b ver with
              | some blk =>
                if o = 0 && sz == i.size && blk.sz == i.size && blk.grow && blk.elem == e && decide (len * sz ≤ blk.cells.length) && (len + m) * i.bytes ≤ 140737488355328 && len + m ≤ maxLen then
                  some (if m = 0 then .val s else .upd (.own b 0 (len + m) sz (ver + 1)) b { blk with ver := ver + 1, cells := blk.cells.take (len * sz) ++ cs })
                else none
              | none => match appAt H b ver with
                | some blk =>
                  if o = 0 && sz == i.size && blk.sz == i.size && blk.grow && blk.elem == e && decide (len * sz = blk.cells.length) && (len + m) * i.bytes ≤ 140737488355328 && len + m ≤ maxLen then
                    some (if m = 0 then .val s else .upd (.own b 0 (len + m) sz (ver + 1)) b { blk with ver := ver + 1, cells := blk.cells ++ cs })
                  else none
                | none => none
            | .sc (.slice none 0 0) =>
              if m * i.bytes ≤ 140737488355328 && m ≤ maxLen then
                some (if m = 0 then .val s else .new (.own H.length 0 m i.size 0) ⟨e, i.size, 0, true, cs, .cells⟩)
              else none
            | .z =>
              if m * i.bytes ≤ 140737488355328 && m ≤ maxLen then
                some (if m = 0 then .val s else .new (.own H.length 0 m i.size 0) ⟨e, i.size, 0, true, cs, .cells⟩)
              else none
            | _ => none
            else none
          | none => none
        else none
      | none => none
    | none => none
  | _ => none
def aint : AV → Option Int
  | .sc (.int _ n) => some n
  | _ => none
def alen : AV → Option Nat
  | .lst _ rows => some rows.length
  | .own _ _ len _ _ => some len
  | .z => some 0
  | _ => none
def bnd (x : Option AV) (d : Nat) (top : Nat) : Option Nat :=
  match x with
  | none => some d
  | some v => match aint v with
    | some n => if 0 ≤ n ∧ n ≤ top then some n.toNat else none
    | none => none
def szl (P : Program) (t : TypeId) : Bool :=
  match P.underlying t with
  | some (.slice e) => (szOf P e).isSome
  | _ => false
def ali3 (P : Program) (H : List Blk) (t : TypeId) (b o len sz ver : Nat) (m : Option Int) (hi : Option AV) (lo : Bool) : Option Res :=
  match P.underlying t, m, hi, appAt H b ver with
  | some (.slice e), some n, some h, some blk => match aint h, szOf P e with
    | some n2, some s => if !lo && o == 0 && decide (n = len) && decide (n2 = len) && decide (0 < len) && s == sz && decide (len * sz = blk.cells.length) then some (.new (.own H.length 0 len sz 0) ⟨blk.elem, blk.sz, 0, false, blk.cells, .ali⟩) else none
    | _, _ => none
  | _, _, _, _ => none
def aappend2 (P : Program) (H : List Blk) (t u : TypeId) (s x : AV) : Option Res :=
  match P.underlying t, P.underlying u with
  | some (.slice e), some .string =>
    match P.info? e, x with
    | some i, .sc (.string str) =>
      match i.zero with
      | some (.int .u8 0) =>
        if i.size == 1 && i.bytes == 1 then
          match s with
          | .own b o len sz ver =>
            match blkAt H b ver with
            | some blk =>
              if o == 0 && sz == 1 && blk.sz == 1 && blk.grow && blk.elem == e && decide (len ≤ blk.cells.length) && decide (len + str.size ≤ 140737488355328) && decide (0 < str.size) then
                some (.upd (.own b 0 (len + str.size) 1 (ver + 1)) b { blk with ver := ver + 1, cells := blk.cells.take len ++ str.data.toList.map fun c => AV.sc (.int .u8 c.toNat) })
              else none
            | none => none
          | .sc (.slice none 0 0) =>
            if decide (str.size ≤ 140737488355328) && decide (0 < str.size) then some (.new (.own H.length 0 str.size 1 0) ⟨e, 1, 0, true, str.data.toList.map fun c => AV.sc (.int .u8 c.toNat), .cells⟩) else none
          | _ => none
        else none
      | _ => none
    | _, _ => none
  | some (.slice e), some (.int _) =>
    match P.info? e, aint x, s with
    | some i, some n, .sc (.slice none 0 0) =>
      match i.zero with
      | some zv =>
        if 0 < i.size && zv.cells.size == i.size && zv.cells.toList.all Value.oneCell' && decide (0 < n) && decide (n.toNat * i.bytes ≤ 140737488355328) && decide (n.toNat ≤ maxLen) then
          some (.new (.own H.length 0 n.toNat i.size 0) ⟨e, i.size, 0, true, (List.replicate n.toNat (zv.cells.toList.map AV.sc)).flatten, .cells⟩)
        else none
      | none => none
    | _, _, _ => none
  | _, _ => none
def mapAt (H : List Blk) (b ver : Nat) : Option (Blk × List (Value × AV)) :=
  match H[b]? with
  | some blk => match blk.kind with
    | .map kvs => bif Nat.beq blk.ver ver then some (blk, kvs) else none
    | _ => none
  | none => none
def simpleKey (P : Program) (t : TypeId) : Option TypeDesc :=
  match P.underlying t with
  | some (.int k) => some (.int k)
  | some .string => some .string
  | some .bool => some .bool
  | _ => none
def afind (kd : TypeDesc) (k : Value) : List (Value × AV) → Nat → Option (Option (Nat × AV))
  | [], _ => some none
  | (k', x) :: r, i => match Instr.sameNow kd k k' with
    | some true => some (some (i, x))
    | some false => afind kd k r (i + 1)
    | none => none
def akey : AV → Option Value
  | .sc v => some v
  | _ => none
def mapOf (H : List Blk) : AV → Option (List (Value × AV))
  | .sc (.map none) => some []
  | .mp b ver => (mapAt H b ver).map (·.2)
  | _ => none
def hit (z : Value) : Option (Nat × AV) → AV × Bool
  | some (_, x) => (x, true)
  | none => (ofV z, false)
def ptrTest (P : Program) (H : List Blk) (op : BinOp) (t : TypeId) (x y : AV) : Option Bool :=
  match x, y with
  | .ptr b o v, .ptr b' o' v' =>
    if b = b' && v == v' then
      match blkAt H b v, P.underlying t with
      | some _, some (.pointer e) => match szOf P e with
        | some (_ + 1) => match op with
          | .eql => some (o == o')
          | .neq => some (!(o == o'))
          | _ => none
        | _ => none
      | _, _ => none
    else none
  | _, _ => none
def bytesOf : List AV → Option (List UInt8)
  | [] => some []
  | .sc (.int .u8 n) :: r => if (n.toNat.toUInt8.toNat : Int) = n then (bytesOf r).map (n.toNat.toUInt8 :: ·) else none
  | _ => none
def some_ (H : List Blk) : AV → Bool
  | .lst _ ((_ :: _) :: _) => true
  | .own b _ _ _ ver => (blkAt H b ver).isSome
  | .ptr _ _ _ => true
  | .ro _ => true
  | .fn _ _ => true
  | _ => false
def kindOf : AV → Nat
  | .lst _ _ | .own .. => 1
  | .ptr .. | .ro .. => 2
  | .fn .. => 3
  | _ => 0
def nilKind (P : Program) (t : TypeId) : AV → Nat
  | .sc (.slice none _ _) => match P.underlying t with | some (.slice _) => 1 | _ => 0
  | .sc (.pointer none) => match P.underlying t with | some (.pointer _) => 2 | _ => 0
  | .sc .nilFunc => match P.underlying t with | some (.func _ _ _) => 3 | _ => 0
  | _ => 0
def nilTest (P : Program) (H : List Blk) (op : BinOp) (t : TypeId) (x y : AV) : Option Bool :=
  if (some_ H x && nilKind P t y != 0 && kindOf x == nilKind P t y) || (some_ H y && nilKind P t x != 0 && kindOf y == nilKind P t x) then
    match op with
    | .eql => some false
    | .neq => some true
    | _ => none
  else none
def aop (P : Program) (H : List Blk) (ρ : Operand → AV) (o : Oper) : Option Res :=
  match o.op with
  | .move x | .assign x => some (.val (ρ x))
  | .pick c a b => match ρ c with
    | .sc (.bool t) => some (.val (if t then ρ a else ρ b))
    | _ => none
  | .alloc elem =>
    match P.info? elem with
    | some i => match i.zero with
      | some zv => if zv.cells.toList.all Value.oneCell' then some (.new (.ptr H.length 0 0) ⟨elem, i.size, 0, false, zv.cells.toList.map .sc, .cells⟩) else none
      | none => none
    | none => none
  | .box elem x => if solid (ρ x) && (acells (ρ x)).all one then some (.new (.ptr H.length 0 0) ⟨elem, 0, 0, false, acells (ρ x), .cells⟩) else none
  | .build t parts =>
    match P.info? t with
    | some i => match i.zero with
      | some zv =>
        match P.underlying t with
        | some (.struct fields) =>
          match places P fields.toList with
          | some pl => (afill (pl[·]?) (zv.cells.toList.map .sc) (parts.toList.map fun (j, x) => (j, ρ x))).map fun cs => .val (.agg cs)
          | none => none
        | some (.array _ e) =>
          match szOf P e with
          | some s => (afill (fun j => some (j * s, s)) (zv.cells.toList.map .sc) (parts.toList.map fun (j, x) => (j, ρ x))).map fun cs => .val (.agg cs)
          | none => none
        | _ => none
      | none => none
    | none => none
  | .buildSlice t len parts =>
    match P.underlying t with
    | some (.slice e) =>
      match P.info? e with
      | some i => match i.zero with
        | some zv =>
          if 0 < i.size && zv.cells.size == i.size && zv.cells.toList.all Value.oneCell' && len * i.size ≤ 16777216 then
            match afill (fun j => some (j * i.size, i.size)) ((List.replicate len (zv.cells.toList.map AV.sc)).flatten) (parts.toList.map fun (j, x) => (j, ρ x)) with
            | some cs => if cs.all one then some (.new (if len = 0 then .z else .own H.length 0 len i.size 0) ⟨e, i.size, 0, true, cs, .cells⟩) else none
            | none => none
          else none
        | none => none
      | none => none
    | _ => none
  | .load t x =>
    match ρ x with
    | .ptr b off ver => match blkAt H b ver with
      | some blk => (rdVar P t blk.cells off).map .val
      | none => none
    | .ro cs => (rdVar P t cs 0).map .val
    | _ => none
  | .store t x y =>
    match ρ x, szOf P t with
    | .ptr b off ver, some n => match blkAt H b ver with
      | some blk =>
        if solid (ρ y) && (acells (ρ y)).all one && (acells (ρ y)).length == n && off + n ≤ blk.cells.length then some (.upd .bad b { blk with cells := splice blk.cells off (acells (ρ y)) }) else none
      | none => none
    | _, _ => none
  | .nilCheck x =>
    match ρ x with
    | .ptr b off ver => some (.val (.ptr b off ver))
    | .ro cs => some (.val (.ro cs))
    | .fn f caps => some (.val (.fn f caps))
    | _ => (sop P ρ o).map .val
  | .makeFunc (.func f) first captured => if first.size = 0 then some (.val (.fn f (captured.toList.map ρ))) else none
  | .makeInterface t x =>
    match P.underlying t with
    | some (.interface _) => none
    | some _ => some (.val (.ifc t (ρ x)))
    | none => none
  | .makeSlice t l c =>
    match P.underlying t with
    | some (.slice e) =>
      match P.info? e with
      | some i => match i.zero, aint (ρ l), aint (ρ c) with
        | some zv, some nl, some nc =>
          if 0 < i.size && zv.cells.size == i.size && zv.cells.toList.all Value.oneCell' && 0 ≤ nl && nl ≤ nc && (nc.toNat * i.bytes ≤ 140737488355328) && nc.toNat ≤ maxLen then
            some (.new (.own H.length 0 nl.toNat i.size 0) ⟨e, i.size, 0, true, (List.replicate nl.toNat (zv.cells.toList.map AV.sc)).flatten, .cells⟩)
          else none
        | _, _, _ => none
      | none => none
    | _ => none
  | .slice t x lo hi mx =>
    match ρ x with
    | .lst sz rows =>
      match mx with
      | some m => match aint (ρ m), bnd (hi.map ρ) rows.length 0, bnd (lo.map ρ) 0 0 with
        | some 0, some 0, some 0 => if hi.isSome && szl P t then some (.val .z) else none
        | _, _, _ => none
      | none =>
        match P.underlying t, bnd (hi.map ρ) rows.length rows.length with
        | some (.slice e), some h => match bnd (lo.map ρ) 0 h, szOf P e with
          | some l, some s => if s = sz || rows.isEmpty then some (.val (mkL sz ((rows.take h).drop l))) else none
          | _, _ => none
        | _, _ => none
    | .own b o len sz ver =>
      match mx with
      | some m => match aint (ρ m), bnd (hi.map ρ) len 0, bnd (lo.map ρ) 0 0 with
        | some 0, some 0, some 0 => if hi.isSome && szl P t then some (.val .z) else none
        | _, _, _ => ali3 P H t b o len sz ver (aint (ρ m)) (hi.map ρ) lo.isSome
      | none =>
        match P.underlying t, bnd (hi.map ρ) len len, blkAt H b ver with
        | some (.slice e), some h, some _ => match bnd (lo.map ρ) 0 h, szOf P e with
          | some l, some s => if s = sz then some (.val (if l = h && l != 0 then .lst sz [] else .own b (o + l) (h - l) sz ver)) else none
          | _, _ => none
        | _, _, _ => none
    | .ptr b off ver =>
      match P.underlying t, mx, blkAt H b ver with
      | some (.array n e), none, some blk => match bnd (hi.map ρ) n n, szOf P e with
        | some h, some s => match bnd (lo.map ρ) 0 h with
          | some l => if 0 < s && off % s == 0 && !blk.grow then some (.val (if l = h then .lst s [] else .own b (off / s + l) (h - l) s ver)) else none
          | none => none
        | _, _ => none
      | _, _, _ => none
    | _ => (sop P ρ o).map .val
  | .fieldAddr s x f =>
    match P.underlying s with
    | some (.struct fields) =>
      match fields[f]? with
      | some fd =>
        match szOf P fd.type, ρ x with
        | some (n + 1), .ptr b off ver => match blkAt H b ver with
          | some _ => some (.val (.ptr b (off + fd.offset) ver))
          | none => none
        | some (n + 1), .ro cs => if fd.offset ≤ cs.length then some (.val (.ro (cs.drop fd.offset))) else none
        | _, _ => none
      | none => none
    | _ => none
  | .field t x f =>
    match P.underlying t with
    | some (.struct fields) =>
      match fields[f]?, ρ x with
      | some fd, .agg cs => (rdVar P fd.type cs fd.offset).map .val
      | _, _ => none
    | _ => none
  | .indexAddr t x i =>
    match P.underlying t, aint (ρ i) with
    | some (.slice e), some n =>
      if 0 ≤ n then
        match ρ x, szOf P e with
        | .lst sz rows, some s => if s = sz && 0 < s then (rows[n.toNat]?).map fun r => .val (.ro r) else none
        | .own b o len sz ver, some s => match blkAt H b ver with
          | some _ => if s = sz && n < len then some (.val (.ptr b ((o + n.toNat) * sz) ver)) else none
          | none => none
        | _, _ => none
      else none
    | some (.array len e), some n =>
      if 0 ≤ n && n < len then
        match ρ x, szOf P e with
        | .ptr b off ver, some s => match blkAt H b ver with
          | some _ => some (.val (.ptr b (off + n.toNat * s) ver))
          | none => none
        | .ro cs, some s => if n.toNat * s ≤ cs.length then some (.val (.ro (cs.drop (n.toNat * s)))) else none
        | _, _ => none
      else none
    | _, _ => none
  | .index t x i =>
    match P.underlying t, aint (ρ i), ρ x with
    | some (.array len e), some n, .agg cs =>
      if 0 ≤ n && n < len then match szOf P e with
        | some s => (rdVar P e cs (n.toNat * s)).map .val
        | none => none
      else none
    | _, _, _ => (sop P ρ o).map .val
  | .extract x ix =>
    match ρ x with
    | .tup vs => (vs[ix]?).map .val
    | _ => none
  | .makeMap t r =>
    match P.underlying t with
    | some (.map _ _) => if (match r with | none => true | some h => (aint (ρ h)).isSome) then some (.new (.mp H.length 0) ⟨0, 0, 0, false, [], .map []⟩) else none
    | _ => none
  | .lookup t x k ok =>
    match P.underlying t with
    | some (.map kt et) =>
      match simpleKey P kt, mapOf H (ρ x), akey (ρ k), P.info? et with
      | some kd, some kvs, some kv, some i =>
        match i.zero, afind kd kv kvs 0 with
        | some zv, some r => some (.val (if ok then .tup [(hit zv r).1, .sc (.bool (hit zv r).2)] else (hit zv r).1))
        | _, _ => none
      | _, _, _, _ => none
    | _ => none
  | .mapUpdate t m k x | .insert t m k x =>
    match P.underlying t with
    | some (.map kt _) =>
      match simpleKey P kt, ρ m, akey (ρ k) with
      | some kd, .mp b ver, some kv =>
        match mapAt H b ver with
        | some (blk, kvs) => match afind kd kv kvs 0 with
          | some (some (i, _)) => some (.upd .bad b { blk with kind := .map (kvs.set i (kv, ρ x)) })
          | some none => some (.upd .bad b { blk with kind := .map (kvs ++ [(kv, ρ x)]) })
          | none => none
        | none => none
      | _, _, _ => none
    | _ => none
  | .mapEntry t m k =>
    match P.underlying t with
    | some (.map kt et) =>
      match simpleKey P kt, ρ m, akey (ρ k), P.info? et with
      | some kd, .mp b ver, some kv, some i =>
        match mapAt H b ver, i.zero with
        | some (blk, kvs), some zv => match afind kd kv kvs 0 with
          | some (some (i, x)) => some (.upd (.tup [x, .sc (.int .i64 i)]) b { blk with kind := .map kvs })
          | some none => some (.upd (.tup [ofV zv, .sc (.int .i64 kvs.length)]) b { blk with kind := .map (kvs ++ [(kv, ofV zv)]) })
          | none => none
        | _, _ => none
      | _, _, _, _ => none
    | _ => none
  | .entryStore _ m s x =>
    match ρ m, aint (ρ s) with
    | .mp b ver, some n =>
      match mapAt H b ver with
      | some (blk, kvs) => if 0 ≤ n then match kvs[n.toNat]? with
        | some (k, _) => some (.upd .bad b { blk with kind := .map (kvs.set n.toNat (k, ρ x)) })
        | none => none
        else none
      | none => none
    | _, _ => none
  | .convert src dst x =>
    match ρ x with
    | .ptr b off ver =>
      match P.underlying src, P.underlying dst, blkAt H b ver with
      | some (.pointer t), some .unsafePointer, some blk => match szOf P t with
        | some (_ + 1) => if off < blk.cells.length then some (.val (.ptr b off ver)) else none
        | _ => none
      | some .unsafePointer, some (.pointer u), some blk =>
        if !blk.grow && (P.info? u).isSome && liesAt P P.depth blk.elem (blk.cells.length / P.cellsOf blk.elem) off u 1 then some (.val (.ptr b off ver)) else none
      | _, _, _ => none
    | _ => (sop P ρ o).map .val
  | .call c =>
    match c.callee with
    | .builtin .len =>
      match c.args[0]?, c.argTypes[0]? with
      | some x, some t => match alen (ρ x), P.underlying t with
        | some n, some (.slice _) => some (.val (.sc (.int .i64 n)))
        | _, _ => match ρ x, P.underlying t with
          | .mp b ver, some (.map _ _) => (mapAt H b ver).map fun q => .val (.sc (.int .i64 q.2.length))
          | _, _ => (sop P ρ o).map .val
      | _, _ => none
    | .builtin .unsafeSliceData =>
      match c.args.toList with
      | [x] => match ρ x with
        | .own b o len sz ver => if 0 < len then match blkAt H b ver with
          | some _ => some (.val (.ptr b (o * sz) ver))
          | none => none
          else none
        | _ => (sop P ρ o).map .val
      | _ => none
    | .builtin .unsafeString =>
      match c.args.toList, c.argTypes.toList with
      | [p, n], [pt, _] => match ρ p, ρ n with
        | .ptr b off ver, .sc (.int .i64 k) => if 0 < k && off == 0 && decide (k.toNat ≤ maxLen) then match blkAt H b ver, P.underlying pt with
          | some blk, some (.pointer e) => if P.cellsOf e == 1 && blk.elem == e && decide (k.toNat ≤ blk.cells.length) then match bytesOf (blk.cells.take k.toNat) with
            | some l => some (.upd (.sc (.string ⟨l.toArray⟩)) b { blk with kind := .dead })
            | none => none
            else none
          | _, _ => none
          else none
        | _, _ => (sop P ρ o).map .val
      | _, _ => none
    | .builtin .append =>
      match c.args.toList, c.argTypes.toList with
      | [s, x], [t, u] => if t = u then aappend P H t (ρ s) (ρ x) else aappend2 P H t u (ρ s) (ρ x)
      | _, _ => none
    | .builtin .clear =>
      match c.args.toList, c.argTypes.toList with
      | [x], [t] => match P.underlying t with
        | some (.slice e) => match ρ x with
          | .lst _ [] => some (.val (.tup []))
          | .own b o len sz ver => match blkAt H b ver, P.info? e with
            | some blk, some i => match i.zero with
              | some zv => if 0 < i.size && sz == i.size && zv.cells.size == i.size && zv.cells.toList.all Value.oneCell' && (o + len) * sz ≤ blk.cells.length then
                  some (if len = 0 then .val (.tup []) else .upd (.tup []) b { blk with cells := splice blk.cells (o * sz) (List.replicate len (zv.cells.toList.map AV.sc)).flatten }) else none
              | none => none
            | _, _ => none
          | _ => (sop P ρ o).map .val
        | _ => none
      | _, _ => none
    | .builtin .copy =>
      match c.args.toList, c.argTypes.toList with
      | [x, y], [t, u] => if t = u then match P.underlying t with
        | some (.slice e) => match szOf P e with
          | some s => if 0 < s then match ρ x, elems H (ρ y) s with
            | .own b o len sz ver, some (cs, m) => match blkAt H b ver with
              | some blk => if sz = s && cs.all one && (o + len) * sz ≤ blk.cells.length then
                  some (if min m len = 0 then .val (.sc (.int .i64 0)) else .upd (.sc (.int .i64 (min m len : Nat))) b { blk with cells := splice blk.cells (o * sz) (cs.take (min m len * sz)) }) else none
              | none => none
            | _, _ => none
            else none
          | none => none
        | _ => none
        else none
      | _, _ => none
    | .builtin _ => (sop P ρ o).map .val
    | _ => none
  | .binOp op t x y _ =>
    match nilTest P H op t (ρ x) (ρ y) with
    | some b => some (.val (.sc (.bool b)))
    | none => match ptrTest P H op t (ρ x) (ρ y) with
      | some b => some (.val (.sc (.bool b)))
      | none => (sop P ρ o).map .val
  | _ => (sop P ρ o).map .val
def chunks (sz : Nat) : Nat → List AV → List (List AV)
  | 0, _ => []
  | n + 1, l => l.take sz :: chunks sz n (l.drop sz)
def amap (f : AV → Option AV) : List AV → Option (List AV)
  | [] => some []
  | x :: xs => match f x, amap f xs with
    | some y, some ys => some (y :: ys)
    | _, _ => none
def rb (H : List Blk) : Nat → AV → Option AV
  | 0, _ => none
  | k + 1, x => match x with
    | .agg cs => (amap (rb H k) cs).map .agg
    | .tup cs => (amap (rb H k) cs).map .tup
    | .fn f cs => (amap (rb H k) cs).map (.fn f)
    | .ifc t y => (rb H k y).map (.ifc t)
    | .own b o len sz ver => match blkR H b ver with
      | some blk => match rdCells blk.cells (o * sz) (len * sz) with
        | some cs => (amap (rb H k) cs).map fun l => mkL sz (chunks sz len l)
        | none => none
      | none => none
    | .ptr b off ver => match blkAt H b ver with
      | some blk => (amap (rb H k) (blk.cells.drop off)).map .ro
      | none => none
    | .mp _ _ => none
    | .lst sz rows => some (mkL sz rows)
    | .ro cs => (amap (rb H k) cs).map .ro
    | .z => some (.lst 0 [])
    | .sc (.slice none 0 0) => some (.lst 0 [])
    | x => some x
def pv : Nat → AV → Bool
  | 0, _ => false
  | k + 1, x => match x with
    | .agg cs => cs.all (pv k)
    | .tup cs => cs.all (pv k)
    | .fn _ cs => cs.all (pv k)
    | .ifc _ y => pv k y
    | .own .. => false
    | .ptr .. => false
    | .mp .. => false
    | _ => true
def plainV : AV → Bool
  | .sc _ => true
  | .agg cs => (toVs cs).isSome
  | .tup cs => cs.all fun | .sc _ => true | .agg ds => (toVs ds).isSome | _ => false
  | _ => false
def freshR0 (H : List Blk) (r : AV) : Bool := match r with
  | .own b o len sz ver => match blkAt H b ver with
    | some blk => match rdCells blk.cells (o * sz) (len * sz) with
      | some cs => (toVs cs).isSome
      | none => false
    | none => false
  | x => plainV x
def deepF (H : List Blk) : Nat → AV → Bool
  | 0, _ => false
  | k + 1, x => match x with
    | .sc _ => true
    | .z => true
    | .lst _ [] => true
    | .agg cs => cs.all (deepF H k)
    | .tup cs => cs.all (deepF H k)
    | .own b o len sz ver => match blkAt H b ver with
      | some blk => match rdCells blk.cells (o * sz) (len * sz) with
        | some cs => cs.all (deepF H k)
        | none => false
      | none => false
    | _ => false
def freshR (H : List Blk) (r : AV) : Bool := freshR0 H r || deepF H 40 r
abbrev Fun := FuncId → List AV → List Blk → Option (AV × List Blk)
def depth : Nat := 40
def vcall (fr : Bool) (call : Fun) (f : FuncId) (args : List AV) (H : List Blk) : Option (AV × List Blk) :=
  match amap (rb H depth) args with
  | some as => match call f as [] with
    | some (r, H1) => if !fr || freshR H1 r then (rb H1 depth r).map fun y => (y, H) else none
    | none => none
  | none => none
def acall (mode : FuncId → Nat) (strict : Bool) (call : Fun) : Fun := fun f args H =>
  match mode f with
  | 0 => call f args H
  | 1 => if args.all (pv depth) then vcall false call f args H else none
  | _ => vcall true call f args H
def pureOf (mode : FuncId → Nat) (f : FuncId) : Bool := mode f != 0
inductive AX where
  | normal
  | exit (id : Nat)
  | goto (l : Nat)
  | ret
structure St where
  env : Env
  heap : List Blk
def callee (ρ : Operand → AV) (c : Call) : Option (FuncId × List AV) :=
  match c.callee with
  | .value f => match ρ f with
    | .fn g caps => some (g, c.args.toList.map ρ ++ caps)
    | _ => none
  | _ => none
def awanted (ops : Array Oper) (E : Env) (o : Oper) : Option Bool :=
  match o.guard with
  | none => some true
  | some (j, want) => match (ops[j]?).bind (·.dst) with
    | some t => match eget E t with
      | .sc (.bool b) => some (b == want)
      | .sc (.tuple _) => some false
      | _ => none
    | none => none
def dput (n : Nat) (E : Env) (dst : Option Tmp) (x : AV) : Option Env :=
  match dst with
  | none => some E
  | some d => if d < n then some (eput E d x) else none
section
variable (P : Program) (call : Fun)
def aopH (H : List Blk) (ρ : Operand → AV) (o : Oper) : Option (AV × List Blk) :=
  match aop P H ρ o with
  | some (.val x) => some (x, H)
  | some (.new x b) => some (x, H ++ [b])
  | some (.upd x i b) => some (x, H.set i b)
  | none => none
def aext (f : FuncId) (args : List AV) : Option AV :=
  match P.funcs[f]? with
  | some fn => if fn.body.isNone && fn.name == "internal/abi.NoEscape" && (Extern.findNext fn).isNone then match args with
    | [x] => some x
    | _ => none
    else none
  | none => none
def acallH (H : List Blk) (ρ : Operand → AV) (o : Oper) : Option (AV × List Blk) :=
  match o.op with
  | .call c => match callee ρ c with
    | some (f, args) => match call f args H with
      | some r => some r
      | none => (aext P f args).map fun x => (x, H)
    | none => aopH P H ρ o
  | _ => aopH P H ρ o
def aval (ops : Array Oper) (o : Oper) (s : St) : Option (AV × List Blk) :=
  match awanted ops s.env o with
  | some true => acallH P call s.heap (aeval s.env) o
  | some false => some (.sc undef, s.heap)
  | none => none
def astep (n : Nat) (ops : Array Oper) (o : Oper) (s : St) : Option St :=
  match aval P call ops o s with
  | some (x, H) => (dput n s.env o.dst x).map fun E => ⟨E, H⟩
  | none => none
def aops (n : Nat) (ops : Array Oper) : List Oper → St → Option St
  | [], s => some s
  | o :: os, s => match astep P call n ops o s with
    | some s => aops n ops os s
    | none => none
def freeze (x : AV) (blk : Blk) : Option AV := match blk.kind with
  | .cells => if blk.cells.all (pv depth) then match x with
    | .ptr _ 0 0 => some (.ro blk.cells)
    | .own _ 0 len sz 0 => match rdCells blk.cells 0 (len * sz) with
      | some cs => some (mkL sz (chunks sz len cs))
      | none => none
    | .z => some .z
    | _ => none
    else none
  | _ => none
def frozen (H : List Blk) (ρ : Operand → AV) (o : Oper) : Option AV := match aop P H ρ o with
  | some (.new x blk) => freeze x blk
  | _ => none
def apped (H : List Blk) (ρ : Operand → AV) (o : Oper) : Option (AV × Blk) := match aop P H ρ o with
  | some (.new x blk) => match blk.kind with
    | .cells => some (x, { blk with kind := .app })
    | _ => none
  | _ => none
def zstep (frz : List Nat) (n : Nat) (ops : Array Oper) (o : Oper) (s : St) : Option St :=
  match (match o.dst with | some t => frz.contains t | none => false) with
  | true => match awanted ops s.env o with
    | some true => match (match o.dst with | some t => frz.contains (t + 1000000) | none => false) with
      | true => match apped P s.heap (aeval s.env) o with
        | some (y, blk) => (dput n s.env o.dst y).map fun E => ⟨E, s.heap ++ [blk]⟩
        | none => astep P call n ops o s
      | false => match frozen P s.heap (aeval s.env) o with
        | some y => (dput n s.env o.dst y).map fun E => ⟨E, s.heap⟩
        | none => astep P call n ops o s
    | _ => astep P call n ops o s
  | false => astep P call n ops o s
def isAlloc : Op → Bool
  | .alloc _ => true
  | _ => false
def isTmp (t : Tmp) : Operand → Bool
  | .tmp u => Nat.beq u t
  | _ => false
def isVar (frz : List Nat) (o o2 : Oper) : Option (Tmp × Operand × TypeId) :=
  match o.op, o.dst, o.guard, o2.op, o2.dst, o2.guard with
  | .alloc e, some t, none, .store e' (.tmp t') y, none, none => if frz.contains t && Nat.beq t t' && Nat.beq e e' && !isTmp t y then some (t, y, e) else none
  | _, _, _, _, _, _ => none
def zvar (n : Nat) (t : Tmp) (y : Operand) (e : TypeId) (s : St) : Option St :=
  match P.info? e with
  | some i => match i.zero with
    | some zv => if t < n && solid (aeval s.env y) && (acells (aeval s.env y)).all one && (acells (aeval s.env y)).all (pv depth) && (acells (aeval s.env y)).length == i.size && zv.cells.size == i.size && zv.cells.toList.all Value.oneCell' then
        some ⟨eput s.env t (.ro (acells (aeval s.env y))), s.heap⟩ else none
    | none => none
  | none => none
def midOf (t : Tmp) (y : Operand) (om : Oper) : Option (Tmp × Operand) :=
  match om.op, om.dst, om.guard with
  | .assign x, some u, none => if !Nat.beq u t && !isTmp t x && !isTmp u y then some (u, x) else none
  | _, _, _ => none
def zvar3 (frz : List Nat) (n : Nat) (o om o2 : Oper) (s : St) : Option St :=
  match isVar frz o o2 with
  | some (t, y, e) => match midOf t y om with
    | some (u, x) => match zvar P n t y e s with
      | some s1 => (dput n s1.env (some u) (aeval s.env x)).map fun E => ⟨E, s1.heap⟩
      | none => none
    | none => none
  | none => none
def zvar2 (frz : List Nat) (n : Nat) (o o2 : Oper) (s : St) : Option St :=
  match isVar frz o o2 with
  | some (t, y, e) => zvar P n t y e s
  | none => none
def aopsZ (frz : List Nat) (n : Nat) (ops : Array Oper) : List Oper → St → Option St
  | [], s => some s
  | [o], s => zstep P call frz n ops o s
  | [o, o2], s => match zvar2 P frz n o o2 s with
    | some s => some s
    | none => match zstep P call frz n ops o s with
      | some s => zstep P call frz n ops o2 s
      | none => none
  | o :: o2 :: o3 :: os, s => match zvar2 P frz n o o2 s with
    | some s => aopsZ frz n ops (o3 :: os) s
    | none => match zvar3 P frz n o o2 o3 s with
      | some s => aopsZ frz n ops os s
      | none => match zstep P call frz n ops o s with
        | some s => aopsZ frz n ops (o2 :: o3 :: os) s
        | none => none
def byVal : AV → Bool
  | .lst _ _ | .ro _ | .sc _ | .z => true
  | _ => false
def touchV (ρ : Operand → AV) : Op → Bool
  | .store _ _ _ | .alloc _ | .box _ _ | .buildSlice _ _ _ | .makeSlice _ _ _ => true
  | .makeMap _ _ | .lookup _ _ _ _ | .mapUpdate _ _ _ _ | .insert _ _ _ _ | .mapEntry _ _ _ | .entryStore _ _ _ _ => true
  | .convert _ _ x => match ρ x with | .ptr .. => true | _ => false
  | .load _ x | .slice _ x _ _ _ | .fieldAddr _ x _ | .indexAddr _ x _ => !byVal (ρ x)
  | .binOp _ _ x y _ => !((toV (ρ x)).isSome && (toV (ρ y)).isSome)
  | .call c => match c.callee with
    | .builtin .append => match c.args.toList with
      | [s, x] => !(byVal (ρ s) && byVal (ρ x))
      | _ => true
    | .builtin .copy | .builtin .clear | .builtin .unsafeString | .builtin .unsafeSliceData => true
    | .builtin .len => match c.args.toList with
      | [x] => match ρ x with | .mp .. => true | _ => false
      | _ => true
    | .builtin _ => false
    | _ => true
  | _ => false
def bit (pure_ : FuncId → Bool) (ops : Array Oper) (o : Oper) (s : St) : Bool × Bool :=
  match awanted ops s.env o with
  | some true =>
    match (match o.op with | .call c => callee (aeval s.env) c | _ => none) with
    | some (f, _) => (true, !pure_ f)
    | none => match aop P s.heap (aeval s.env) o with
      | some (.upd _ _ _) => (true, true)
      | some (.new _ _) => (true, false)
      | _ => (touchV (aeval s.env) o.op, false)
  | _ => (false, false)
def trace (pure_ : FuncId → Bool) (n : Nat) (ops : Array Oper) : List Oper → St → Option (St × List (Bool × Bool))
  | [], s => some (s, [])
  | o :: os, s => match astep P call n ops o s with
    | some s' => match trace pure_ n ops os s' with
      | some (s2, l) => some (s2, bit P pure_ ops o s :: l)
      | none => none
    | none => none
def edgesOf (o : Oper) : List Nat := o.after.toList.filterMap fun e => if Region.binds .any e then some e.on else none
def ancMask (T : List Nat) (o : Oper) : Nat := (edgesOf o).foldr (fun e m => (2 ^ e ||| (T[e]?).getD 0) ||| m) 0
def mkT : List Oper → List Nat → List Nat
  | [], T => T
  | o :: os, T => mkT os (T ++ [ancMask T o])
def anc (T : List Nat) (i j : Nat) : Bool := ((T[j]?).getD 0).testBit i
def tabOk (T : List Nat) (ops : Array Oper) : Bool :=
  (List.range ops.size).all fun j => match ops[j]? with
    | some o => (T[j]?).getD 0 == ancMask T o && (edgesOf o).all fun e => decide (e < j)
    | none => true
def pairsOk (ops : Array Oper) (bits : Nat → Bool × Bool) : Bool :=
  let T := mkT ops.toList []
  tabOk T ops && (List.range ops.size).all fun j => (List.range j).all fun i => anc T i j || match ops[i]?, ops[j]? with
    | some x, some y => x.apart ops y && !((bits i).2 && (bits j).1) && !((bits i).1 && (bits j).2)
    | _, _ => true
def refT (P : Program) (t : TypeId) : Bool :=
  match P.underlying t with
  | some (.slice _) | some (.pointer _) | some (.func _ _ _) | some .unsafePointer => true
  | _ => false
def mapT (P : Program) (t : TypeId) : Bool :=
  match P.underlying t with
  | some (.map _ _) => true
  | _ => false
def modS (pure_ : FuncId → Bool) : Op → Bool
  | .store _ _ _ | .mapUpdate _ _ _ _ | .insert _ _ _ _ | .mapEntry _ _ _ | .entryStore _ _ _ _ => true
  | .call c => match c.callee with
    | .value (.func f) => !pure_ f
    | .value _ => true
    | .invoke _ _ => true
    | .builtin .append | .builtin .copy | .builtin .clear | .builtin .unsafeString => true
    | .builtin _ => false
  | _ => false
def touchS : Op → Bool
  | .store _ _ _ | .load _ _ | .slice _ _ _ _ _ | .fieldAddr _ _ _ | .indexAddr _ _ _ | .alloc _ | .box _ _ | .buildSlice _ _ _ | .makeSlice _ _ _ => true
  | .makeMap _ _ | .lookup _ _ _ _ | .mapUpdate _ _ _ _ | .insert _ _ _ _ | .mapEntry _ _ _ | .entryStore _ _ _ _ => true
  | .convert src dst _ => refT P src || refT P dst
  | .binOp op t _ _ _ => (match op with | .eql | .neq => true | _ => false) && refT P t
  | .call c => match c.callee with
    | .builtin .append | .builtin .copy | .builtin .clear | .builtin .unsafeString | .builtin .unsafeSliceData => true
    | .builtin .len => match c.argTypes[0]? with
      | some t => mapT P t
      | none => false
    | .builtin _ => false
    | _ => true
  | _ => false
def loopN (f : St → Option (AX × St)) : Nat → St → Option (AX × St)
  | 0, _ => none
  | k + 1, s => match f s with
    | some (.normal, s') => loopN f k s'
    | r => r
def firstId : Code → Option Nat
  | .region id _ _ => some id
  | .seq a b => match firstId a with | some i => some i | none => firstId b
  | .cond _ a b => match firstId a with | some i => some i | none => firstId b
  | .block _ b => firstId b
  | .loop b => firstId b
  | .scope b => firstId b
  | _ => none
def prune (E : Env) : Option (List Nat) → Env
  | none => E
  | some l => l.map fun t => (t, eget E t)
def rsvOf : List Nat → Nat → Option Nat
  | [], _ => none
  | x :: xs, k => bif Nat.beq x k then some 0 else match rsvOf xs k with | some i => some (i + 1) | none => none
def preR (ops : Array Oper) : List Nat → Option (List Blk)
  | [] => some []
  | k :: ks => match ops[k]? with
    | some o => match o.op, o.guard with
      | .alloc _, none => match aop P [] (fun _ => .bad) o, preR ops ks with
        | some (.new _ blk), some l => some (blk :: l)
        | _, _ => none
      | _, _ => none
    | none => none
def traceR (pure_ : FuncId → Bool) (n : Nat) (ops : Array Oper) (rs : List Nat) (h : Nat) : Nat → List Oper → St → Option (St × List (Bool × Bool))
  | _, [], s => some (s, [])
  | k, o :: os, s => match rsvOf rs k with
    | some i => match dput n s.env o.dst (.ptr (h + i) 0 0) with
      | some E => match traceR pure_ n ops rs h (k + 1) os ⟨E, s.heap⟩ with
        | some (s2, l) => some (s2, (false, false) :: l)
        | none => none
      | none => none
    | none => match astep P call n ops o s with
      | some s' => match traceR pure_ n ops rs h (k + 1) os s' with
        | some (s2, l) => some (s2, bit P pure_ ops o s :: l)
        | none => none
      | none => none
def quietC (ops : Array Oper) (bits : Nat → Bool × Bool) : Bool :=
  (List.range ops.size).all fun k => !(bits k).2 || match ops[k]? with
    | some o => (match o.op with
      | .call c => (match c.callee with | .builtin _ => true | _ => false)
      | _ => true)
    | none => true
def rsOk (rs : List Nat) : Bool := (List.range rs.length).all fun j => match rs[j]? with
  | some k => (match rsvOf rs k with | some i => Nat.beq i j | none => false)
  | none => false
def dynR (callD : Fun) (pure_ : FuncId → Bool) (n : Nat) (ops : Array Oper) (rs : List Nat) (s : St) : Option (AX × St) :=
  match preR P ops rs with
  | some pre => match traceR P callD pure_ n ops rs s.heap.length 0 ops.toList ⟨s.env, s.heap ++ pre⟩ with
    | some (s', l) => if pairsOk ops (fun i => (l[i]?).getD (false, false)) && quietC ops (fun i => (l[i]?).getD (false, false)) && rsOk rs then some (.normal, s') else none
    | none => none
  | none => none
def acode (callD : Fun) (jump : Code → Code → St → Option (AX × St)) (pure_ : FuncId → Bool) (dyn : Nat → Bool) (keep : Nat → Option (List Nat)) (n k : Nat) : Code → St → Option (AX × St)
  | .skip, s => some (.normal, s)
  | .region id ops draw, s =>
    if draw then
    if dyn id then
      match keep (2000000 + id) with
      | some rs => dynR P callD pure_ n ops rs s
      | none => match trace P callD pure_ n ops ops.toList s with
        | some (s', l) => if pairsOk ops (fun i => (l[i]?).getD (false, false)) then some (.normal, s') else none
        | none => none
    else (aops P callD n ops ops.toList s).map fun s => (.normal, s)
    else (aopsZ P call ((keep 1000000).getD []) n ops ops.toList s).map fun s => (.normal, s)
  | .seq a b, s => match acode callD jump pure_ dyn keep n k a s with
    | some (.normal, s') => acode callD jump pure_ dyn keep n k b s'
    | r => r
  | .cond c a b, s => match aeval s.env c with
    | .sc (.bool t) => if t then acode callD jump pure_ dyn keep n k a s else acode callD jump pure_ dyn keep n k b s
    | _ => none
  | .block id b, s => match acode callD jump pure_ dyn keep n k b s with
    | some (.exit i, s') => if i = id then some (.normal, s') else some (.exit i, s')
    | r => r
  | .loop b, s => loopN (fun s => acode callD jump pure_ dyn keep n k b ⟨prune s.env ((firstId b).bind keep), s.heap⟩) k s
  | .exit id, s => some (.exit id, s)
  | .scope b, s => match acode callD jump pure_ dyn keep n k b s with
    | some (.goto l, s') => match findLabel b l with
      | some rest => jump b rest s'
      | none => some (.goto l, s')
    | r => r
  | .goto l, s => some (.goto l, s)
  | .label _, s => some (.normal, s)
  | .ret, s => some (.ret, s)
  | _, _ => none
def jumpN (callD : Fun) (pure_ : FuncId → Bool) (dyn : Nat → Bool) (keep : Nat → Option (List Nat)) (n k : Nat) : Nat → Code → Code → St → Option (AX × St)
  | 0, _, _, _ => none
  | j + 1, b, rest, s => match acode P call callD (jumpN callD pure_ dyn keep n k j) pure_ dyn keep n k rest s with
    | some (.goto l, s') => match findLabel b l with
      | some rest' => jumpN callD pure_ dyn keep n k j b rest' s'
      | none => some (.goto l, s')
    | r => r
end
def zipEnv : Nat → List AV → Env
  | _, [] => []
  | i, x :: xs => (i, x) :: zipEnv (i + 1) xs
def ares (P : Program) (H : List Blk) (E : Env) : List ResultVar → Option (List AV)
  | [] => some []
  | .tmp t :: r => (ares P H E r).map (eget E t :: ·)
  | .cell a t :: r => match eget E a with
    | .ptr b off ver => match blkAt H b ver with
      | some blk => match rdVar P t blk.cells off, ares P H E r with
        | some x, some xs => some (x :: xs)
        | _, _ => none
      | none => none
    | _ => none
def aresult : List AV → AV
  | [x] => x
  | xs => .tup xs
structure Cfg where
  prim : FuncId → Option (List AV → List Blk → Option (AV × List Blk))
  mode : FuncId → Nat
  use : FuncId → Bool
  dyn : FuncId → Nat → Bool
  keep : FuncId → Nat → Option (List Nat)
def abody (P : Program) (C : Cfg) (call callD : Fun) (k : Nat) (f : FuncId) (args : List AV) (H : List Blk) : Option (AV × List Blk) :=
  if C.use f then
  match P.funcs[f]? with
  | some fn => match fn.body with
    | some c =>
      match acode P call callD (jumpN P call callD (pureOf C.mode) (C.dyn f) (C.keep f) (max fn.ntmps args.length) k k) (pureOf C.mode) (C.dyn f) (C.keep f) (max fn.ntmps args.length) k c ⟨zipEnv 0 args, H⟩ with
      | some (.normal, s) => (ares P s.heap s.env fn.results.toList).map fun l => (aresult l, s.heap)
      | some (.ret, s) => (ares P s.heap s.env fn.results.toList).map fun l => (aresult l, s.heap)
      | _ => none
    | none => none
  | none => none
  else none
def arun (P : Program) (C : Cfg) : Nat → Fun
  | 0 => fun _ _ _ => none
  | k + 1 => fun f args H =>
    match C.prim f with
    | some p => p args H
    | none => abody P C (acall C.mode false (arun P C k)) (acall C.mode true (arun P C k)) k f args H
end Go.Proofs.YtpgipdajinkdgaaGreatA
