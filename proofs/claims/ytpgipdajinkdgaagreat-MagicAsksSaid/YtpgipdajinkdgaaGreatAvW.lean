/- A part of the proof of MagicAsks: functions of the program, run by the evaluator. -/

/- Running by hand: operations on values that are told by letters. -/
import Derived.Test.YtpgipdajinkdgaaGreatAvS
import Derived.Laws.StructEq
namespace Go.Proofs.YtpgipdajinkdgaaGreatA
open Go Go.RowKit
set_option linter.all false
set_option linter.unusedSectionVars false
set_option linter.constructorNameAsVariable false
set_option linter.unusedVariables false
set_option linter.unusedSimpArgs false
theorem pureRun_bind (P : Program) {α β : Type} : ∀ (s : Sem α) (f : α → Sem β), pureRun P (s >>= f) = (pureRun P s).bind fun a => pureRun P (f a)
  | .pure a, f => rfl
  | .program k, f => by
    have := pureRun_bind P (k P) f
    exact this
  | .halt _, f => rfl
  | .load .., f => rfl
  | .store .., f => rfl
  | .new .., f => rfl
  | .shape .., f => rfl
  | .freeze .., f => rfl
  | .frozen .., f => rfl
  | .getObj .., f => rfl
  | .setObj .., f => rfl
  | .choose .., f => rfl
  | .sys .., f => rfl
  | .mark .., f => rfl
theorem beq_int (m n : Int) : (m == n) = decide (m = n) := rfl
theorem bne_int (m n : Int) : (m != n) = !decide (m = n) := rfl
theorem pureRun_pure (P : Program) {α : Type} (a : α) : pureRun P (pure a) = some a := rfl
section
variable {P : Program} {H : List Blk} {ρ : Operand → AV} {d : Option Tmp} {ty : TypeId} {pos : String} {af : Array Edge} {g : Option (Nat × Bool)}
def flat : AV → Bool
  | .sc (.int _ _) | .sc (.string _) | .sc (.bool _) | .agg _ => true
  | _ => false
theorem nilTest_flat' {op : BinOp} {t : TypeId} {x y : AV} (hx : flat x = true) (hy : flat y = true) : nilTest P H op t x y = none := by
  have h : ∀ z, flat z = true → some_ H z = false ∧ nilKind P t z = 0 := by
    intro z hz
    unfold flat at hz
    split at hz <;> first | exact ⟨rfl, rfl⟩ | (cases hz; done)
  unfold nilTest
  rw [(h x hx).1, (h y hy).1]
  rfl
theorem ptrTest_flat' {op : BinOp} {t : TypeId} {x y : AV} (hx : flat x = true) : ptrTest P H op t x y = none := by
  unfold flat at hx
  split at hx <;> first | rfl | (cases hx; done)
def pOut (P : Program) (s : Sem Value) : Option AV := (pureRun P s).map ofV
theorem sop_v {o : Oper} {s : Sem Value} (h1 : (o.op.operands.all fun x => (toV (ρ x)).isSome) = true) (h2 : isSel o.op = false)
    (h : execOp (fun x => (toV (ρ x)).getD undef) o = (do pure (.value (← s)))) : sop P ρ o = pOut P s := by
  unfold sop pOut
  rw [h1, h2, h, pureRun_bind]
  cases pureRun P s <;> rfl
def aBin (P : Program) (H : List Blk) (op : BinOp) (t : TypeId) (p q : Operand) (u v : AV) : Option Res :=
  match nilTest P H op t u v with
  | some b => some (.val (.sc (.bool b)))
  | none => match ptrTest P H op t u v with
    | some b => some (.val (.sc (.bool b)))
    | none => if (toV u).isSome && (toV v).isSome then (pOut P (do eqGuard op t p q ((toV u).getD undef) ((toV v).getD undef); binOp op t ((toV u).getD undef) ((toV v).getD undef))).map .val else none
theorem aop_bin {op : BinOp} {t yt : TypeId} {x y : Operand} : aop P H ρ ⟨d, .binOp op t x y yt, ty, pos, af, g⟩ = aBin P H op t x y (ρ x) (ρ y) := by
  simp only [aop, aBin]
  have : sop P ρ ⟨d, .binOp op t x y yt, ty, pos, af, g⟩ = (if (toV (ρ x)).isSome && (toV (ρ y)).isSome then pOut P (do eqGuard op t x y ((toV (ρ x)).getD undef) ((toV (ρ y)).getD undef); binOp op t ((toV (ρ x)).getD undef) ((toV (ρ y)).getD undef)) else none) := by
    have hall : ((Op.binOp op t x y yt).operands.all fun x => (toV (ρ x)).isSome) = ((toV (ρ x)).isSome && (toV (ρ y)).isSome) := by
      simp [Op.operands]
    by_cases hc : ((toV (ρ x)).isSome && (toV (ρ y)).isSome) = true
    · rw [if_pos hc]
      exact sop_v (by rw [hall]; exact hc) rfl rfl
    · rw [if_neg hc]
      unfold sop
      rw [hall, Bool.not_eq_true] at *
      simp [hc]
  rw [this]
  cases nilTest P H op t (ρ x) (ρ y) with
  | some b => rfl
  | none => cases ptrTest P H op t (ρ x) (ρ y) with
    | some b => rfl
    | none =>
      dsimp only
      split <;> rfl
def cmpI : BinOp → Int → Int → Option Bool
  | .eql, m, n => some (decide (m = n))
  | .neq, m, n => some (!decide (m = n))
  | .lss, m, n => some (decide (m < n))
  | .leq, m, n => some (decide (m ≤ n))
  | .gtr, m, n => some (decide (n < m))
  | .geq, m, n => some (decide (n ≤ m))
  | _, _, _ => none
theorem aBin_cmp {op : BinOp} {t : TypeId} {p q : Operand} {k : IntKind} {m n : Int} {b : Bool} (h : cmpI op m n = some b) : aBin P H op t p q (.sc (.int k m)) (.sc (.int k n)) = some (.val (.sc (.bool b))) := by
  unfold aBin
  rw [nilTest_flat' rfl rfl, ptrTest_flat' rfl]
  cases op <;> simp only [cmpI] at h <;> (try (cases h; done)) <;> cases h <;> (simp [toV, pOut, eqGuard, binOp, Op.intCmp, pureRun, ofV, pureRun_bind, pureRun_pure, beq_int, bne_int])
theorem aBin_eqlI {t : TypeId} {p q : Operand} {k : IntKind} {m n : Int} : aBin P H .eql t p q (.sc (.int k m)) (.sc (.int k n)) = some (.val (.sc (.bool (decide (m = n))))) := aBin_cmp rfl
theorem aBin_neqI {t : TypeId} {p q : Operand} {k : IntKind} {m n : Int} : aBin P H .neq t p q (.sc (.int k m)) (.sc (.int k n)) = some (.val (.sc (.bool (!decide (m = n))))) := aBin_cmp rfl
theorem aBin_lssI {t : TypeId} {p q : Operand} {k : IntKind} {m n : Int} : aBin P H .lss t p q (.sc (.int k m)) (.sc (.int k n)) = some (.val (.sc (.bool (decide (m < n))))) := aBin_cmp rfl
theorem aBin_leqI {t : TypeId} {p q : Operand} {k : IntKind} {m n : Int} : aBin P H .leq t p q (.sc (.int k m)) (.sc (.int k n)) = some (.val (.sc (.bool (decide (m ≤ n))))) := aBin_cmp rfl
theorem aBin_gtrI {t : TypeId} {p q : Operand} {k : IntKind} {m n : Int} : aBin P H .gtr t p q (.sc (.int k m)) (.sc (.int k n)) = some (.val (.sc (.bool (decide (n < m))))) := aBin_cmp rfl
theorem aBin_geqI {t : TypeId} {p q : Operand} {k : IntKind} {m n : Int} : aBin P H .geq t p q (.sc (.int k m)) (.sc (.int k n)) = some (.val (.sc (.bool (decide (n ≤ m))))) := aBin_cmp rfl
theorem aBin_addI {t : TypeId} {p q : Operand} {k : IntKind} {m n : Int} : aBin P H .add t p q (.sc (.int k m)) (.sc (.int k n)) = some (.val (.sc (.int k (k.wrap (m + n))))) := by
  unfold aBin
  rw [nilTest_flat' rfl rfl, ptrTest_flat' rfl]
  simp [toV, pOut, eqGuard, binOp, Op.intArith, pureRun, ofV, pureRun_bind, pureRun_pure, beq_int, bne_int]
theorem aBin_subI {t : TypeId} {p q : Operand} {k : IntKind} {m n : Int} : aBin P H .sub t p q (.sc (.int k m)) (.sc (.int k n)) = some (.val (.sc (.int k (k.wrap (m - n))))) := by
  unfold aBin
  rw [nilTest_flat' rfl rfl, ptrTest_flat' rfl]
  simp [toV, pOut, eqGuard, binOp, Op.intArith, pureRun, ofV, pureRun_bind, pureRun_pure, beq_int, bne_int]
theorem bytes_eq (a b : ByteArray) : (a.toList == b.toList) = decide (a = b) := by
  rw [Bool.eq_iff_iff]
  simp only [beq_iff_eq, decide_eq_true_eq]
  constructor
  · intro h
    have h2 : (a == b) = true := by rw [beq_toListBytes, h]; simp
    exact (beq_bytes a b).1 h2
  · rintro rfl; rfl
theorem aBin_eqlS {t : TypeId} {p q : Operand} {a b : ByteArray} : aBin P H .eql t p q (.sc (.string a)) (.sc (.string b)) = some (.val (.sc (.bool (decide (a = b))))) := by
  unfold aBin
  rw [nilTest_flat' rfl rfl, ptrTest_flat' rfl]
  simp [toV, pOut, eqGuard, binOp, Op.stringOp, pureRun, ofV, pureRun_bind, pureRun_pure, beq_int, bne_int, bytes_eq]
theorem aBin_neqS {t : TypeId} {p q : Operand} {a b : ByteArray} : aBin P H .neq t p q (.sc (.string a)) (.sc (.string b)) = some (.val (.sc (.bool (!decide (a = b))))) := by
  unfold aBin
  rw [nilTest_flat' rfl rfl, ptrTest_flat' rfl]
  simp [toV, pOut, eqGuard, binOp, Op.stringOp, pureRun, ofV, pureRun_bind, pureRun_pure, beq_int, bne_int, bytes_eq]
theorem aBin_addS {t : TypeId} {p q : Operand} {a b : ByteArray} (h : a.size + b.size ≤ maxLen) : aBin P H .add t p q (.sc (.string a)) (.sc (.string b)) = some (.val (.sc (.string (a ++ b)))) := by
  unfold aBin
  rw [nilTest_flat' rfl rfl, ptrTest_flat' rfl]
  have hm : ¬ (9223372036854775807 : Int) < (a.size : Int) + b.size := by
    unfold maxLen at h
    omega
  simp [toV, pOut, eqGuard, binOp, Op.stringOp, pureRun, ofV, pureRun_bind, pureRun_pure, beq_int, bne_int, hm]
theorem aop_move {x : Operand} : aop P H ρ ⟨d, .move x, ty, pos, af, g⟩ = some (.val (ρ x)) := rfl
theorem aop_assign {x : Operand} : aop P H ρ ⟨d, .assign x, ty, pos, af, g⟩ = some (.val (ρ x)) := rfl
def aPick (c x y : AV) : Option Res := match c with
  | .sc (.bool t) => some (.val (if t then x else y))
  | _ => none
theorem aop_pick {c x y : Operand} : aop P H ρ ⟨d, .pick c x y, ty, pos, af, g⟩ = aPick (ρ c) (ρ x) (ρ y) := rfl
theorem aPick_b {t : Bool} {x y : AV} : aPick (.sc (.bool t)) x y = some (.val (if t then x else y)) := rfl
def aAlloc (P : Program) (H : List Blk) (e : TypeId) : Option Res := match P.info? e with
  | some i => match i.zero with
    | some zv => if zv.cells.toList.all Value.oneCell' then some (.new (.ptr H.length 0 0) ⟨e, i.size, 0, false, zv.cells.toList.map .sc, .cells⟩) else none
    | none => none
  | none => none
theorem aop_alloc {e : TypeId} : aop P H ρ ⟨d, .alloc e, ty, pos, af, g⟩ = aAlloc P H e := rfl
def aBox (H : List Blk) (e : TypeId) (x : AV) : Option Res := if solid x && (acells x).all one then some (.new (.ptr H.length 0 0) ⟨e, 0, 0, false, acells x, .cells⟩) else none
theorem aop_box {e : TypeId} {x : Operand} : aop P H ρ ⟨d, .box e x, ty, pos, af, g⟩ = aBox H e (ρ x) := rfl
def aLoad (P : Program) (H : List Blk) (t : TypeId) (x : AV) : Option Res := match x with
  | .ptr b off ver => match blkAt H b ver with
    | some blk => (rdVar P t blk.cells off).map .val
    | none => none
  | .ro cs => (rdVar P t cs 0).map .val
  | _ => none
theorem aop_load {t : TypeId} {x : Operand} : aop P H ρ ⟨d, .load t x, ty, pos, af, g⟩ = aLoad P H t (ρ x) := rfl
def aStore (P : Program) (H : List Blk) (t : TypeId) (x y : AV) : Option Res := match x, szOf P t with
  | .ptr b off ver, some n => match blkAt H b ver with
    | some blk => if solid y && (acells y).all one && (acells y).length == n && off + n ≤ blk.cells.length then some (.upd .bad b { blk with cells := splice blk.cells off (acells y) }) else none
    | none => none
  | _, _ => none
theorem aop_store {t : TypeId} {x y : Operand} : aop P H ρ ⟨d, .store t x y, ty, pos, af, g⟩ = aStore P H t (ρ x) (ρ y) := rfl
def aFieldAddr (P : Program) (H : List Blk) (s : TypeId) (x : AV) (f : Nat) : Option Res := match P.underlying s with
  | some (.struct fields) =>
    match fields[f]? with
    | some fd =>
      match szOf P fd.type, x with
      | some (n + 1), .ptr b off ver => match blkAt H b ver with
        | some _ => some (.val (.ptr b (off + fd.offset) ver))
        | none => none
      | some (n + 1), .ro cs => if fd.offset ≤ cs.length then some (.val (.ro (cs.drop fd.offset))) else none
      | _, _ => none
    | none => none
  | _ => none
theorem aop_fieldAddr {s : TypeId} {x : Operand} {f : Nat} : aop P H ρ ⟨d, .fieldAddr s x f, ty, pos, af, g⟩ = aFieldAddr P H s (ρ x) f := rfl
def aField (P : Program) (t : TypeId) (x : AV) (f : Nat) : Option Res := match P.underlying t with
  | some (.struct fields) =>
    match fields[f]?, x with
    | some fd, .agg cs => (rdVar P fd.type cs fd.offset).map .val
    | _, _ => none
  | _ => none
theorem aop_field {t : TypeId} {x : Operand} {f : Nat} : aop P H ρ ⟨d, .field t x f, ty, pos, af, g⟩ = aField P t (ρ x) f := rfl
def aIndexAddr (P : Program) (H : List Blk) (t : TypeId) (x i : AV) : Option Res := match P.underlying t, aint i with
  | some (.slice e), some n =>
    if 0 ≤ n then
      match x, szOf P e with
      | .lst sz rows, some s => if s = sz && 0 < s then (rows[n.toNat]?).map fun r => .val (.ro r) else none
      | .own b o len sz ver, some s => match blkAt H b ver with
        | some _ => if s = sz && n < len then some (.val (.ptr b ((o + n.toNat) * sz) ver)) else none
        | none => none
      | _, _ => none
    else none
  | some (.array len e), some n =>
    if 0 ≤ n && n < len then
      match x, szOf P e with
      | .ptr b off ver, some s => match blkAt H b ver with
        | some _ => some (.val (.ptr b (off + n.toNat * s) ver))
        | none => none
      | .ro cs, some s => if n.toNat * s ≤ cs.length then some (.val (.ro (cs.drop (n.toNat * s)))) else none
      | _, _ => none
    else none
  | _, _ => none
theorem aop_indexAddr {t : TypeId} {x i : Operand} : aop P H ρ ⟨d, .indexAddr t x i, ty, pos, af, g⟩ = aIndexAddr P H t (ρ x) (ρ i) := rfl
def aExtract (x : AV) (i : Nat) : Option Res := match x with
  | .tup vs => (vs[i]?).map .val
  | _ => none
theorem aop_extract {x : Operand} {i : Nat} : aop P H ρ ⟨d, .extract x i, ty, pos, af, g⟩ = aExtract (ρ x) i := rfl
theorem pureRun_under {t : TypeId} {e : TypeDesc} (h : P.underlying t = some e) : pureRun P (underlying t) = some e := by
  unfold underlying
  rw [pureRun_bind]
  simp [program, pureRun, h, pureRun_pure]
theorem sop_no {o : Oper} (h : (o.op.operands.all fun x => (toV (ρ x)).isSome) = false) : sop P ρ o = none := by
  unfold sop
  rw [h]
  rfl
def aLen (P : Program) (H : List Blk) (t : TypeId) (x : AV) : Option Res := match alen x, P.underlying t with
  | some n, some (.slice _) => some (.val (.sc (.int .i64 n)))
  | _, _ => match x, P.underlying t with
    | .mp b ver, some (.map _ _) => (mapAt H b ver).map fun q => .val (.sc (.int .i64 q.2.length))
    | _, _ => match toV x with
      | some v => (pOut P (Builtin.len_ #[t] t #[v])).map .val
      | none => none
theorem aop_len {x : Operand} {t : TypeId} : aop P H ρ ⟨d, .call ⟨.builtin .len, #[x], #[t]⟩, ty, pos, af, g⟩ = aLen P H t (ρ x) := by
  have hs : (sop P ρ ⟨d, .call ⟨.builtin .len, #[x], #[t]⟩, ty, pos, af, g⟩).map Res.val = (match toV (ρ x) with
      | some v => (pOut P (Builtin.len_ #[t] t #[v])).map .val
      | none => none) := by
    cases h : toV (ρ x) with
    | none => rw [sop_no (by simp [Op.operands, Call.operands, h])]; rfl
    | some v => rw [sop_v (s := Builtin.len_ #[t] t #[v]) (by simp [Op.operands, Call.operands, h]) rfl (by simp [execOp, resolve, invoke, builtin, h, Builtin.len_])]
  simp only [aLen, ← hs]
  rfl
theorem aLen_slice {x : AV} {t e : TypeId} {n : Nat} (h1 : P.underlying t = some (.slice e)) (h2 : alen x = some n) : aLen P H t x = some (.val (.sc (.int .i64 n))) := by
  simp only [aLen, h1, h2]
theorem aLen_S {t : TypeId} {s : ByteArray} (ht : P.underlying t = some .string) : aLen P H t (.sc (.string s)) = some (.val (.sc (.int .i64 s.size))) := by
  simp only [aLen, alen, ht, toV]
  simp [pOut, Builtin.len_, pureRun_bind, pureRun_under ht, pureRun_pure, ofV, goInt]
def aUn (op : UnOp) (P : Program) (x : AV) : Option Res := match toV x with
  | some v => (pOut P (Op.unary op v)).map .val
  | none => none
theorem aop_un {op : UnOp} {x : Operand} {t : TypeId} : aop P H ρ ⟨d, .unOp op t x, ty, pos, af, g⟩ = aUn op P (ρ x) := by
  simp only [aop, aUn]
  cases h : toV (ρ x) with
  | none => rw [sop_no (by simp [Op.operands, h])]; rfl
  | some v => rw [sop_v (s := Op.unary op v) (by simp [Op.operands, h]) rfl (by simp [execOp, h])]
theorem aUn_not {b : Bool} : aUn .not P (.sc (.bool b)) = some (.val (.sc (.bool (!b)))) := by
  simp [aUn, toV, pOut, Op.unary, pureRun_pure, ofV]
def aIndex (P : Program) (t : TypeId) (x i : AV) : Option Res := match P.underlying t, aint i, x with
  | some (.array len e), some n, .agg cs =>
    if 0 ≤ n && n < len then match szOf P e with
      | some s => (rdVar P e cs (n.toNat * s)).map .val
      | none => none
    else none
  | _, _, _ => match toV x, toV i with
    | some v, some u => (pOut P (Instr.index t v u)).map .val
    | _, _ => none
theorem aop_index {x i : Operand} {t : TypeId} : aop P H ρ ⟨d, .index t x i, ty, pos, af, g⟩ = aIndex P t (ρ x) (ρ i) := by
  have hs : (sop P ρ ⟨d, .index t x i, ty, pos, af, g⟩).map Res.val = (match toV (ρ x), toV (ρ i) with
      | some v, some u => (pOut P (Instr.index t v u)).map .val
      | _, _ => none) := by
    cases h : toV (ρ x) with
    | none => rw [sop_no (by simp [Op.operands, h])]; rfl
    | some v => cases h2 : toV (ρ i) with
      | none => rw [sop_no (by simp [Op.operands, h2])]; rfl
      | some u => rw [sop_v (s := Instr.index t v u) (by simp [Op.operands, h, h2]) rfl (by simp [execOp, h, h2])]
  simp only [aIndex, ← hs]
  rfl
def byteAt (s : ByteArray) (m : Nat) : UInt8 := s.data.toList.getD m 0
theorem byteAt_some {s : ByteArray} {m : Nat} (h : m < s.size) : s[m]? = some (byteAt s m) := by
  have h1 : m < s.data.toList.length := by simpa using h
  have h2 : byteAt s m = s.data.toList[m] := by unfold byteAt; rw [List.getD_eq_getElem?_getD, List.getElem?_eq_getElem h1]; rfl
  rw [h2, getElem?_pos s m h]
  rfl
theorem aIndex_S {t : TypeId} {s : ByteArray} {k : IntKind} {m : Nat} (ht : P.underlying t = some .string) (h : m < s.size) : aIndex P t (.sc (.string s)) (.sc (.int k m)) = some (.val (.sc (.int .u8 (byteAt s m).toNat))) := by
  simp only [aIndex, ht, aint, toV]
  simp [pOut, Instr.index, pureRun_bind, pureRun_under ht, pureRun_pure, ofV, asIntOf, byteAt_some h]
theorem blkAt_eq {b ver : Nat} : blkAt H b ver = (match H[b]? with
    | some blk => (match blk.kind with | .cells => if blk.ver = ver then some blk else none | _ => none)
    | none => none) := by
  unfold blkAt
  cases H[b]? with
  | none => rfl
  | some blk =>
    dsimp only
    cases blk.kind with
    | cells =>
      dsimp only
      by_cases h : blk.ver = ver
      · subst h; simp
      · rw [if_neg h]
        have : Nat.beq blk.ver ver = false := by rw [← Bool.not_eq_true]; exact fun hh => h (Nat.eq_of_beq_eq_true hh)
        rw [this]; rfl
    | map _ => rfl
    | dead => rfl
    | app => rfl
    | ali => rfl
end
section
variable {P : Program} {call callD : Fun} {jump : Code → Code → St → Option (AX × St)} {pure_ : FuncId → Bool} {dyn : Nat → Bool} {keep : Nat → Option (List Nat)} {n k K : Nat} {ops : Array Oper} {E : Env} {H : List Blk} {d : Option Tmp} {op : Op} {ty : TypeId} {pos : String} {af : Array Edge} {os : List Oper}
theorem eget_nil {t : Nat} : eget [] t = .bad := rfl
theorem eget_cons {k t : Nat} {x : AV} {r : Env} : eget ((k, x) :: r) t = if k = t then x else eget r t := by
  simp only [eget]
  by_cases h : k = t
  · subst h; simp
  · rw [if_neg h]
    have : Nat.beq k t = false := by rw [← Bool.not_eq_true]; exact fun hh => h (Nat.eq_of_beq_eq_true hh)
    rw [this]; rfl
theorem eput_nil {t : Nat} {x : AV} : eput [] t x = [(t, x)] := rfl
theorem eput_cons {k t : Nat} {x y : AV} {r : Env} : eput ((k, y) :: r) t x = if k = t then (k, x) :: r else (k, y) :: eput r t x := by
  simp only [eput]
  by_cases h : k = t
  · subst h; simp
  · rw [if_neg h]
    have : Nat.beq k t = false := by rw [← Bool.not_eq_true]; exact fun hh => h (Nat.eq_of_beq_eq_true hh)
    rw [this]; rfl
theorem aeval_tmp {t : Nat} : aeval E (.tmp t) = eget E t := rfl
theorem aeval_const {v : Value} : aeval E (.const v) = ofV v := rfl
theorem aeval_func {f : FuncId} : aeval E (.func f) = .fn f [] := rfl
theorem ofV_int {k : IntKind} {m : Int} : ofV (.int k m) = .sc (.int k m) := rfl
theorem ofV_bool {b : Bool} : ofV (.bool b) = .sc (.bool b) := rfl
theorem ofV_string {b : ByteArray} : ofV (.string b) = .sc (.string b) := rfl
theorem ofV_slice {a : Option Addr} {m n : Nat} : ofV (.slice a m n) = .sc (.slice a m n) := rfl
def prn (keep : Nat → Option (List Nat)) (b : Code) (s : St) : St := ⟨prune s.env ((firstId b).bind keep), s.heap⟩
def aloop (P : Program) (call callD : Fun) (jump : Code → Code → St → Option (AX × St)) (pure_ : FuncId → Bool) (dyn : Nat → Bool) (keep : Nat → Option (List Nat)) (n k : Nat) (b : Code) (s : St) : Option (AX × St) :=
  loopN (fun s => acode P call callD jump pure_ dyn keep n k b (prn keep b s)) k s
theorem acode_skip {s : St} : acode P call callD jump pure_ dyn keep n k .skip s = some (.normal, s) := by simp only [acode]
theorem acode_ret {s : St} : acode P call callD jump pure_ dyn keep n k .ret s = some (.ret, s) := by simp only [acode]
theorem acode_exit {i : Nat} {s : St} : acode P call callD jump pure_ dyn keep n k (.exit i) s = some (.exit i, s) := by simp only [acode]
theorem acode_goto {i : Nat} {s : St} : acode P call callD jump pure_ dyn keep n k (.goto i) s = some (.goto i, s) := by simp only [acode]
theorem acode_label {i : Nat} {s : St} : acode P call callD jump pure_ dyn keep n k (.label i) s = some (.normal, s) := by simp only [acode]
theorem acode_loop {b : Code} {s : St} : acode P call callD jump pure_ dyn keep n k (.loop b) s = aloop P call callD jump pure_ dyn keep n k b s := by simp only [acode, aloop]; rfl
theorem acode_plain {id : Nat} {s : St} : acode P call callD jump pure_ dyn keep n k (.region id ops false) s = (aopsZ P call ((keep 1000000).getD []) n ops ops.toList s).map fun s => (.normal, s) := by simp only [acode]; rfl
def andThen (r : Option (AX × St)) (f : St → Option (AX × St)) : Option (AX × St) := match r with
  | some (.normal, s') => f s'
  | r => r
theorem acode_seq {a b : Code} {s : St} : acode P call callD jump pure_ dyn keep n k (.seq a b) s = andThen (acode P call callD jump pure_ dyn keep n k a s) (acode P call callD jump pure_ dyn keep n k b) := by simp only [acode, andThen]; rfl
theorem andThen_n {s : St} {f : St → Option (AX × St)} : andThen (some (.normal, s)) f = f s := rfl
theorem andThen_r {s : St} {f : St → Option (AX × St)} : andThen (some (.ret, s)) f = some (.ret, s) := rfl
theorem andThen_e {i : Nat} {s : St} {f : St → Option (AX × St)} : andThen (some (.exit i, s)) f = some (.exit i, s) := rfl
theorem andThen_g {i : Nat} {s : St} {f : St → Option (AX × St)} : andThen (some (.goto i, s)) f = some (.goto i, s) := rfl
def acond (c : AV) (x y : Option (AX × St)) : Option (AX × St) := match c with
  | .sc (.bool t) => if t then x else y
  | _ => none
theorem acode_cond {c : Operand} {a b : Code} {s : St} : acode P call callD jump pure_ dyn keep n k (.cond c a b) s = acond (aeval s.env c) (acode P call callD jump pure_ dyn keep n k a s) (acode P call callD jump pure_ dyn keep n k b s) := by simp only [acode, acond]; rfl
theorem acond_t {x y : Option (AX × St)} : acond (.sc (.bool true)) x y = x := rfl
theorem acond_f {x y : Option (AX × St)} : acond (.sc (.bool false)) x y = y := rfl
def inBlk (id : Nat) (r : Option (AX × St)) : Option (AX × St) := match r with
  | some (.exit i, s') => if i = id then some (.normal, s') else some (.exit i, s')
  | r => r
theorem acode_block {id : Nat} {b : Code} {s : St} : acode P call callD jump pure_ dyn keep n k (.block id b) s = inBlk id (acode P call callD jump pure_ dyn keep n k b s) := by simp only [acode, inBlk]; rfl
theorem inBlk_n {id : Nat} {s : St} : inBlk id (some (.normal, s)) = some (.normal, s) := rfl
theorem inBlk_r {id : Nat} {s : St} : inBlk id (some (.ret, s)) = some (.ret, s) := rfl
theorem inBlk_e {id i : Nat} {s : St} : inBlk id (some (.exit i, s)) = if i = id then some (.normal, s) else some (.exit i, s) := rfl
theorem inBlk_g {id i : Nat} {s : St} : inBlk id (some (.goto i, s)) = some (.goto i, s) := rfl
theorem aops_nil {s : St} : aops P call n ops [] s = some s := rfl
def putR (n : Nat) (d : Option Tmp) (E : Env) (r : Option (AV × List Blk)) : Option St := match r with
  | some (x, H) => (dput n E d x).map fun E => ⟨E, H⟩
  | none => none
def next (P : Program) (call : Fun) (n : Nat) (ops : Array Oper) (os : List Oper) (r : Option St) : Option St := match r with
  | some s => aops P call n ops os s
  | none => none
theorem aops_go : aops P call n ops (⟨d, op, ty, pos, af, none⟩ :: os) ⟨E, H⟩ = next P call n ops os (putR n d E (acallH P call H (aeval E) ⟨d, op, ty, pos, af, none⟩)) := rfl
def whenB (w : Option Bool) (x y : Option St) : Option St := match w with
  | some true => x
  | some false => y
  | none => none
theorem aops_guard {j : Nat} {w : Bool} : aops P call n ops (⟨d, op, ty, pos, af, some (j, w)⟩ :: os) ⟨E, H⟩ = next P call n ops os (whenB (awanted ops E ⟨d, op, ty, pos, af, some (j, w)⟩) (putR n d E (acallH P call H (aeval E) ⟨d, op, ty, pos, af, some (j, w)⟩)) (putR n d E (some (.sc undef, H)))) := by
  simp only [aops, astep, aval, next, whenB, putR]
  cases awanted ops E ⟨d, op, ty, pos, af, some (j, w)⟩ with
  | none => rfl
  | some b => cases b <;> rfl
theorem whenB_t {x y : Option St} : whenB (some true) x y = x := rfl
theorem whenB_f {x y : Option St} : whenB (some false) x y = y := rfl
def guardB (x : AV) (w : Bool) : Option Bool := match x with
  | .sc (.bool b) => some (b == w)
  | .sc (.tuple _) => some false
  | _ => none
theorem awanted_at {j : Nat} {w : Bool} : awanted ops E ⟨d, op, ty, pos, af, some (j, w)⟩ = ((ops[j]?).bind (·.dst)).bind fun t => guardB (eget E t) w := by
  simp only [awanted]
  cases (ops[j]?).bind (·.dst) <;> rfl
theorem guardB_b {b w : Bool} : guardB (.sc (.bool b)) w = some (b == w) := rfl
theorem guardB_u {w : Bool} : guardB (.sc undef) w = some false := rfl
def inZ (frz : List Nat) : Option Tmp → Bool
  | some t => frz.contains t
  | none => false
theorem inZ_none {frz : List Nat} : inZ frz none = false := rfl
theorem inZ_nil {t : Option Tmp} : inZ [] t = false := by cases t <;> rfl
theorem inZ_cons {frz : List Nat} {t u : Tmp} : inZ (u :: frz) (some t) = (decide (t = u) || inZ frz (some t)) := by
  simp only [inZ, List.contains_cons]
  rfl
def nextZ (P : Program) (call : Fun) (frz : List Nat) (n : Nat) (ops : Array Oper) (os : List Oper) (r : Option St) : Option St := match r with
  | some s => aopsZ P call frz n ops os s
  | none => none
theorem nextZ_some {frz : List Nat} {s : St} : nextZ P call frz n ops os (some s) = aopsZ P call frz n ops os s := rfl
def frz1 (r : Option Res) : Option AV := match r with
  | some (.new x blk) => freeze x blk
  | _ => none
theorem frz1_new {x : AV} {b : Blk} : frz1 (some (.new x b)) = freeze x b := rfl
theorem frz1_val {x : AV} : frz1 (some (.val x)) = none := rfl
def putZ (n : Nat) (d : Option Tmp) (E : Env) (H : List Blk) (y : Option AV) (r : Option St) : Option St := match y with
  | some y => (dput n E d y).map fun E => ⟨E, H⟩
  | none => r
theorem putZ_some {t : Tmp} {y : AV} {r : Option St} : putZ n (some t) E H (some y) r = if t < n then some ⟨eput E t y, H⟩ else none := by
  simp only [putZ, dput]
  split <;> rfl
theorem putZ_none {d : Option Tmp} {r : Option St} : putZ n d E H none r = r := rfl
def inA (frz : List Nat) : Option Tmp → Bool
  | some t => frz.contains (t + 1000000)
  | none => false
theorem inA_nil {t : Option Tmp} : inA [] t = false := by cases t <;> rfl
theorem inA_cons {frz : List Nat} {t u : Tmp} : inA (u :: frz) (some t) = (decide (t + 1000000 = u) || inA frz (some t)) := by
  simp only [inA, List.contains_cons]
  rfl
def app1 (r : Option Res) : Option (AV × Blk) := match r with
  | some (.new x blk) => match blk.kind with
    | .cells => some (x, { blk with kind := .app })
    | _ => none
  | _ => none
theorem app1_new {x : AV} {e : TypeId} {sz ver : Nat} {gr : Bool} {cs : List AV} : app1 (some (.new x ⟨e, sz, ver, gr, cs, .cells⟩)) = some (x, ⟨e, sz, ver, gr, cs, .app⟩) := rfl
def putA (n : Nat) (d : Option Tmp) (E : Env) (H : List Blk) (y : Option (AV × Blk)) (r : Option St) : Option St := match y with
  | some (y, blk) => (dput n E d y).map fun E => ⟨E, H ++ [blk]⟩
  | none => r
theorem putA_some {t : Tmp} {y : AV} {blk : Blk} {r : Option St} : putA n (some t) E H (some (y, blk)) r = if t < n then some ⟨eput E t y, H ++ [blk]⟩ else none := by
  simp only [putA, dput]
  split <;> rfl
def zg (P : Program) (call : Fun) (frz : List Nat) (n : Nat) (E : Env) (H : List Blk) (o : Oper) : Option St :=
  if inZ frz o.dst = true then (if inA frz o.dst = true then putA n o.dst E H (app1 (aop P H (aeval E) o)) (putR n o.dst E (acallH P call H (aeval E) o)) else putZ n o.dst E H (frz1 (aop P H (aeval E) o)) (putR n o.dst E (acallH P call H (aeval E) o))) else putR n o.dst E (acallH P call H (aeval E) o)
theorem zg_eq {frz : List Nat} {g : Option (Nat × Bool)} : zg P call frz n E H ⟨d, op, ty, pos, af, g⟩ = if inZ frz d = true then (if inA frz d = true then putA n d E H (app1 (aop P H (aeval E) ⟨d, op, ty, pos, af, g⟩)) (putR n d E (acallH P call H (aeval E) ⟨d, op, ty, pos, af, g⟩)) else putZ n d E H (frz1 (aop P H (aeval E) ⟨d, op, ty, pos, af, g⟩)) (putR n d E (acallH P call H (aeval E) ⟨d, op, ty, pos, af, g⟩))) else putR n d E (acallH P call H (aeval E) ⟨d, op, ty, pos, af, g⟩) := rfl
theorem zstep_eq {frz : List Nat} {o : Oper} : zstep P call frz n ops o ⟨E, H⟩ = whenB (awanted ops E o) (zg P call frz n E H o) (putR n o.dst E (some (.sc undef, H))) := by
  have ha : astep P call n ops o ⟨E, H⟩ = whenB (awanted ops E o) (putR n o.dst E (acallH P call H (aeval E) o)) (putR n o.dst E (some (.sc undef, H))) := by
    simp only [astep, aval, whenB, putR]
    cases awanted ops E o with
    | none => rfl
    | some b => cases b <;> rfl
  have hz : zstep P call frz n ops o ⟨E, H⟩ = match inZ frz o.dst with
    | true => match awanted ops E o with
      | some true => match inA frz o.dst with
        | true => match apped P H (aeval E) o with
          | some (y, blk) => (dput n E o.dst y).map fun E => ⟨E, H ++ [blk]⟩
          | none => astep P call n ops o ⟨E, H⟩
        | false => match frozen P H (aeval E) o with
          | some y => (dput n E o.dst y).map fun E => ⟨E, H⟩
          | none => astep P call n ops o ⟨E, H⟩
      | _ => astep P call n ops o ⟨E, H⟩
    | false => astep P call n ops o ⟨E, H⟩ := rfl
  have hf : frozen P H (aeval E) o = frz1 (aop P H (aeval E) o) := rfl
  have hp : apped P H (aeval E) o = app1 (aop P H (aeval E) o) := rfl
  rw [hz, hf, hp, ha]
  unfold zg
  cases inZ frz o.dst with
  | false => rfl
  | true =>
    rw [if_pos rfl]
    cases inA frz o.dst with
    | false =>
      cases awanted ops E o with
      | none => rfl
      | some b =>
        cases b with
        | false => rfl
        | true => cases frz1 (aop P H (aeval E) o) <;> rfl
    | true =>
      rw [if_pos rfl]
      cases awanted ops E o with
      | none => rfl
      | some b =>
        cases b with
        | false => rfl
        | true => cases app1 (aop P H (aeval E) o) <;> rfl
theorem zs_nil {frz : List Nat} {s : St} : aopsZ P call frz n ops [] s = some s := by simp only [aopsZ]
theorem whenB_none {x y : Option St} {o : Oper} (h : o.guard = none) : whenB (awanted ops E o) x y = x := by
  unfold awanted
  rw [h]
  rfl
theorem zs_one {frz : List Nat} : aopsZ P call frz n ops [⟨d, op, ty, pos, af, none⟩] ⟨E, H⟩ = nextZ P call frz n ops [] (zg P call frz n E H ⟨d, op, ty, pos, af, none⟩) := by
  have : ∀ r : Option St, r = nextZ P call frz n ops [] r := fun r => by cases r <;> simp only [nextZ, aopsZ]
  rw [← this]
  simp only [aopsZ]
  rw [zstep_eq, whenB_none rfl]
theorem zs_oneg {frz : List Nat} {j : Nat} {w : Bool} : aopsZ P call frz n ops [⟨d, op, ty, pos, af, some (j, w)⟩] ⟨E, H⟩ = nextZ P call frz n ops [] (whenB (awanted ops E ⟨d, op, ty, pos, af, some (j, w)⟩) (zg P call frz n E H ⟨d, op, ty, pos, af, some (j, w)⟩) (putR n d E (some (.sc undef, H)))) := by
  have : ∀ r : Option St, r = nextZ P call frz n ops [] r := fun r => by cases r <;> simp only [nextZ, aopsZ]
  rw [← this]
  simp only [aopsZ]
  rw [zstep_eq]
theorem isVar_no1 {frz : List Nat} {o o2 : Oper} (h : isAlloc o.op = false) : isVar frz o o2 = none := by
  unfold isVar
  split
  · rename_i h1 _ _ _ _ _
    rw [h1] at h
    cases h
  · rfl
theorem zvar2_no {frz : List Nat} {o o2 : Oper} {s : St} (h : isVar frz o o2 = none) : zvar2 P frz n o o2 s = none := by
  unfold zvar2
  rw [h]
theorem zvar3_no {frz : List Nat} {o om o2 : Oper} {s : St} (h : isVar frz o o2 = none) : zvar3 P frz n o om o2 s = none := by
  unfold zvar3
  rw [h]
theorem zs_ofN {frz : List Nat} {o o2 : Oper} (h : ∀ o2, isVar frz o o2 = none) : aopsZ P call frz n ops (o :: o2 :: os) ⟨E, H⟩ = nextZ P call frz n ops (o2 :: os) (whenB (awanted ops E o) (zg P call frz n E H o) (putR n o.dst E (some (.sc undef, H)))) := by
  rw [← zstep_eq]
  cases os with
  | nil =>
    simp only [aopsZ, zvar2_no (h o2)]
    cases zstep P call frz n ops o ⟨E, H⟩ <;> simp only [nextZ, aopsZ]
  | cons o3 os =>
    simp only [aopsZ, zvar2_no (h o2), zvar3_no (h o3)]
    rfl
def allocZ (P : Program) (call : Fun) (frz : List Nat) (n : Nat) (ops : Array Oper) (o o2 : Oper) (os : List Oper) (E : Env) (H : List Blk) : Option St := aopsZ P call frz n ops (o :: o2 :: os) ⟨E, H⟩
theorem zs_go {frz : List Nat} {o2 : Oper} : aopsZ P call frz n ops (⟨d, op, ty, pos, af, none⟩ :: o2 :: os) ⟨E, H⟩ = if isAlloc op = true then allocZ P call frz n ops ⟨d, op, ty, pos, af, none⟩ o2 os E H else nextZ P call frz n ops (o2 :: os) (zg P call frz n E H ⟨d, op, ty, pos, af, none⟩) := by
  split
  · rfl
  · rename_i h
    rw [zs_ofN (fun o2 => isVar_no1 (by simpa using h)), whenB_none rfl]
theorem zs_gog {frz : List Nat} {o2 : Oper} {j : Nat} {w : Bool} : aopsZ P call frz n ops (⟨d, op, ty, pos, af, some (j, w)⟩ :: o2 :: os) ⟨E, H⟩ = nextZ P call frz n ops (o2 :: os) (whenB (awanted ops E ⟨d, op, ty, pos, af, some (j, w)⟩) (zg P call frz n E H ⟨d, op, ty, pos, af, some (j, w)⟩) (putR n d E (some (.sc undef, H)))) := by
  rw [zs_ofN]
  intro o2
  unfold isVar
  split
  · rename_i h3 _ _ _; cases h3
  · rfl
def zOk (P : Program) (e : TypeId) (m : Nat) : Bool := match P.info? e with
  | some i => match i.zero with
    | some zv => m == i.size && zv.cells.size == i.size && zv.cells.toList.all Value.oneCell'
    | none => false
  | none => false
def zvar1 (P : Program) (n : Nat) (t : Tmp) (e : TypeId) (x : AV) (E : Env) (H : List Blk) : Option St :=
  if (decide (t < n) && solid x && (acells x).all one && (acells x).all (pv depth) && zOk P e (acells x).length) = true then some ⟨eput E t (.ro (acells x)), H⟩ else none
theorem zvar_eq {t : Tmp} {y : Operand} {e : TypeId} : zvar P n t y e ⟨E, H⟩ = zvar1 P n t e (aeval E y) E H := by
  unfold zvar zvar1 zOk
  cases P.info? e with
  | none => simp
  | some i => cases hz : i.zero with
    | none => simp [hz]
    | some zv => simp only [hz, Bool.and_assoc]
def isVarB (frz : List Nat) (t : Tmp) (e : TypeId) (o2 : Oper) : Bool := match o2.op, o2.dst, o2.guard with
  | .store e' (.tmp t') y, none, none => inZ frz (some t) && Nat.beq t t' && Nat.beq e e' && !isTmp t y
  | _, _, _ => false
def stOp : Op → Operand
  | .store _ _ y => y
  | _ => .tmp 0
theorem stOp_store {e : TypeId} {x y : Operand} : stOp (.store e x y) = y := rfl
theorem isVarB_store {frz : List Nat} {t u : Tmp} {e e2 ty2 : TypeId} {pos2 : String} {af2 : Array Edge} {y : Operand} : isVarB frz t e ⟨none, .store e2 (.tmp u) y, ty2, pos2, af2, none⟩ = (inZ frz (some t) && decide (t = u) && decide (e = e2) && !isTmp t y) := by
  have h : ∀ a b : Nat, Nat.beq a b = decide (a = b) := fun a b => by rw [Bool.eq_iff_iff]; simp
  rw [← h, ← h]
  rfl
def altZ (P : Program) (call : Fun) (frz : List Nat) (n : Nat) (ops : Array Oper) (os : List Oper) (r r2 : Option St) : Option St := match r with
  | some s => aopsZ P call frz n ops os s
  | none => r2
theorem altZ_some {frz : List Nat} {s : St} {r2 : Option St} : altZ P call frz n ops os (some s) r2 = aopsZ P call frz n ops os s := rfl
theorem altZ_none {frz : List Nat} {r2 : Option St} : altZ P call frz n ops os none r2 = r2 := rfl
def allocY (P : Program) (call : Fun) (frz : List Nat) (n : Nat) (ops : Array Oper) (o o2 : Oper) (os : List Oper) (E : Env) (H : List Blk) : Option St := match os with
  | [] => nextZ P call frz n ops [o2] (zg P call frz n E H o)
  | o3 :: os' => match zvar3 P frz n o o2 o3 ⟨E, H⟩ with
    | some s => aopsZ P call frz n ops os' s
    | none => nextZ P call frz n ops (o2 :: o3 :: os') (zg P call frz n E H o)
theorem allocY_nil {frz : List Nat} {o o2 : Oper} : allocY P call frz n ops o o2 [] E H = nextZ P call frz n ops [o2] (zg P call frz n E H o) := rfl
def mid1 (P : Program) (n : Nat) (u : Tmp) (z : AV) (r : Option St) : Option St := match r with
  | some s1 => (dput n s1.env (some u) z).map fun E => ⟨E, s1.heap⟩
  | none => none
theorem mid1_some {u : Tmp} {z : AV} {s1 : St} : mid1 P n u z (some s1) = if u < n then some ⟨eput s1.env u z, s1.heap⟩ else none := by
  simp only [mid1, dput]
  split <;> rfl
def midB (t : Tmp) (y : Operand) (om : Oper) : Bool := (midOf t y om).isSome
def midU (om : Oper) : Tmp := om.dst.getD 0
def midX (om : Oper) : Operand := match om.op with | .assign x => x | _ => .tmp 0
theorem midB_assign {t u ty2 : Nat} {x y : Operand} {pos2 : String} {af2 : Array Edge} : midB t y ⟨some u, .assign x, ty2, pos2, af2, none⟩ = (!decide (u = t) && !isTmp t x && !isTmp u y) := by
  have h : ∀ a b : Nat, Nat.beq a b = decide (a = b) := fun a b => by rw [Bool.eq_iff_iff]; simp
  rw [← h]
  unfold midB midOf
  dsimp only
  split <;> simp_all
theorem midU_assign {u ty2 : Nat} {x : Operand} {pos2 : String} {af2 : Array Edge} : midU ⟨some u, .assign x, ty2, pos2, af2, none⟩ = u := rfl
theorem midX_assign {d2 : Option Tmp} {ty2 : Nat} {x : Operand} {pos2 : String} {af2 : Array Edge} : midX ⟨d2, .assign x, ty2, pos2, af2, none⟩ = x := rfl
theorem midOf_eq {t : Tmp} {y : Operand} {om : Oper} : midOf t y om = if midB t y om = true then some (midU om, midX om) else none := by
  unfold midB
  cases h : midOf t y om with
  | none => simp
  | some p =>
    obtain ⟨u, x⟩ := p
    unfold midOf at h
    split at h <;> try (cases h; done)
    rename_i x' u' h1 h2 h3
    split at h <;> try (cases h; done)
    cases h
    simp only [Option.isSome_some, if_true, midU, midX, h1, h2, Option.getD_some]
theorem isVar_eq {frz : List Nat} {t : Tmp} {e : TypeId} {o2 : Oper} : isVar frz ⟨some t, .alloc e, ty, pos, af, none⟩ o2 = if isVarB frz t e o2 = true then some (t, stOp o2.op, e) else none := by
  obtain ⟨d2, op2, ty2, pos2, af2, g2⟩ := o2
  cases op2 <;> (try rfl)
  rename_i e2 x y
  cases x <;> cases d2 <;> cases g2 <;> (try rfl)
theorem allocY_cons {frz : List Nat} {t : Tmp} {e : TypeId} {o2 o3 : Oper} : allocY P call frz n ops ⟨some t, .alloc e, ty, pos, af, none⟩ o2 (o3 :: os) E H =
    if isVarB frz t e o3 = true then (if midB t (stOp o3.op) o2 = true then altZ P call frz n ops os (mid1 P n (midU o2) (aeval E (midX o2)) (zvar1 P n t e (aeval E (stOp o3.op)) E H)) (nextZ P call frz n ops (o2 :: o3 :: os) (zg P call frz n E H ⟨some t, .alloc e, ty, pos, af, none⟩)) else nextZ P call frz n ops (o2 :: o3 :: os) (zg P call frz n E H ⟨some t, .alloc e, ty, pos, af, none⟩)) else nextZ P call frz n ops (o2 :: o3 :: os) (zg P call frz n E H ⟨some t, .alloc e, ty, pos, af, none⟩) := by
  have h3 : zvar3 P frz n ⟨some t, .alloc e, ty, pos, af, none⟩ o2 o3 ⟨E, H⟩ = if isVarB frz t e o3 = true then (if midB t (stOp o3.op) o2 = true then mid1 P n (midU o2) (aeval E (midX o2)) (zvar1 P n t e (aeval E (stOp o3.op)) E H) else none) else none := by
    unfold zvar3
    rw [isVar_eq]
    by_cases hB : isVarB frz t e o3 = true
    · rw [if_pos hB, if_pos hB]
      dsimp only
      rw [midOf_eq]
      by_cases hM : midB t (stOp o3.op) o2 = true
      · rw [if_pos hM, if_pos hM]
        dsimp only
        rw [zvar_eq]
        rfl
      · rw [if_neg hM, if_neg hM]
    · rw [if_neg hB, if_neg hB]
  unfold allocY
  dsimp only
  rw [h3]
  by_cases hB : isVarB frz t e o3 = true
  · rw [if_pos hB, if_pos hB]
    by_cases hM : midB t (stOp o3.op) o2 = true
    · rw [if_pos hM, if_pos hM]
      cases mid1 P n (midU o2) (aeval E (midX o2)) (zvar1 P n t e (aeval E (stOp o3.op)) E H) <;> rfl
    · rw [if_neg hM, if_neg hM]
  · rw [if_neg hB, if_neg hB]
theorem zs_var {frz : List Nat} {t : Tmp} {e : TypeId} {o2 : Oper} : allocZ P call frz n ops ⟨some t, .alloc e, ty, pos, af, none⟩ o2 os E H =
    if isVarB frz t e o2 = true then altZ P call frz n ops os (zvar1 P n t e (aeval E (stOp o2.op)) E H) (allocY P call frz n ops ⟨some t, .alloc e, ty, pos, af, none⟩ o2 os E H) else allocY P call frz n ops ⟨some t, .alloc e, ty, pos, af, none⟩ o2 os E H := by
  have hv := isVar_eq (frz := frz) (t := t) (e := e) (o2 := o2) (ty := ty) (pos := pos) (af := af)
  have hz : zvar2 P frz n ⟨some t, .alloc e, ty, pos, af, none⟩ o2 ⟨E, H⟩ = if isVarB frz t e o2 = true then zvar1 P n t e (aeval E (stOp o2.op)) E H else none := by
    unfold zvar2
    rw [hv]
    by_cases hB : isVarB frz t e o2 = true
    · rw [if_pos hB, if_pos hB, ← zvar_eq]
    · rw [if_neg hB, if_neg hB]
  have hs : zstep P call frz n ops ⟨some t, .alloc e, ty, pos, af, none⟩ ⟨E, H⟩ = zg P call frz n E H ⟨some t, .alloc e, ty, pos, af, none⟩ := by rw [zstep_eq, whenB_none rfl]
  have hn : ∀ r : Option St, (match r with | some s => zstep P call frz n ops o2 s | none => none) = nextZ P call frz n ops [o2] r := fun r => by cases r <;> simp only [nextZ, aopsZ]
  unfold allocZ
  cases os with
  | nil =>
    simp only [aopsZ]
    rw [hz, hs, allocY_nil]
    by_cases hB : isVarB frz t e o2 = true
    · rw [if_pos hB, if_pos hB]
      cases zvar1 P n t e (aeval E (stOp o2.op)) E H with
      | some s => simp only [altZ, aopsZ]
      | none => exact hn _
    · rw [if_neg hB, if_neg hB]
      exact hn _
  | cons o3 os =>
    simp only [aopsZ]
    rw [hz, hs]
    unfold allocY
    by_cases hB : isVarB frz t e o2 = true
    · rw [if_pos hB, if_pos hB]
      cases zvar1 P n t e (aeval E (stOp o2.op)) E H with
      | some s => rfl
      | none =>
        simp only [altZ]
        cases zvar3 P frz n ⟨some t, .alloc e, ty, pos, af, none⟩ o2 o3 ⟨E, H⟩ with
        | some s => rfl
        | none => cases (zg P call frz n E H ⟨some t, .alloc e, ty, pos, af, none⟩) <;> rfl
    · rw [if_neg hB, if_neg hB]
      dsimp only
      cases zvar3 P frz n ⟨some t, .alloc e, ty, pos, af, none⟩ o2 o3 ⟨E, H⟩ with
      | some s => rfl
      | none => cases (zg P call frz n E H ⟨some t, .alloc e, ty, pos, af, none⟩) <;> rfl
theorem next_some {s : St} : next P call n ops os (some s) = aops P call n ops os s := rfl
theorem putR_some {x : AV} {t : Nat} : putR n (some t) E (some (x, H)) = if t < n then some ⟨eput E t x, H⟩ else none := by
  simp only [putR, dput]
  split <;> rfl
theorem putR_no {x : AV} : putR n none E (some (x, H)) = some ⟨E, H⟩ := rfl
def outH (H : List Blk) (r : Option Res) : Option (AV × List Blk) := match r with
  | some (.val x) => some (x, H)
  | some (.new x b) => some (x, H ++ [b])
  | some (.upd x i b) => some (x, H.set i b)
  | none => none
theorem outH_val {x : AV} : outH H (some (.val x)) = some (x, H) := rfl
theorem outH_new {x : AV} {b : Blk} : outH H (some (.new x b)) = some (x, H ++ [b]) := rfl
theorem outH_upd {x : AV} {i : Nat} {b : Blk} : outH H (some (.upd x i b)) = some (x, H.set i b) := rfl
theorem aopH_eq {ρ : Operand → AV} {o : Oper} : aopH P H ρ o = outH H (aop P H ρ o) := by
  unfold aopH outH
  split <;> simp_all
theorem acallH_move {ρ : Operand → AV} {g : Option (Nat × Bool)} {x : Operand} : acallH P call H ρ ⟨d, .move x, ty, pos, af, g⟩ = outH H (aop P H ρ ⟨d, .move x, ty, pos, af, g⟩) := by rw [← aopH_eq]; rfl
theorem acallH_assign {ρ : Operand → AV} {g : Option (Nat × Bool)} {x : Operand} : acallH P call H ρ ⟨d, .assign x, ty, pos, af, g⟩ = outH H (aop P H ρ ⟨d, .assign x, ty, pos, af, g⟩) := by rw [← aopH_eq]; rfl
theorem acallH_pick {ρ : Operand → AV} {g : Option (Nat × Bool)} {x y z' : Operand} : acallH P call H ρ ⟨d, .pick x y z', ty, pos, af, g⟩ = outH H (aop P H ρ ⟨d, .pick x y z', ty, pos, af, g⟩) := by rw [← aopH_eq]; rfl
theorem acallH_load {ρ : Operand → AV} {g : Option (Nat × Bool)} {t : TypeId} {x : Operand} : acallH P call H ρ ⟨d, .load t x, ty, pos, af, g⟩ = outH H (aop P H ρ ⟨d, .load t x, ty, pos, af, g⟩) := by rw [← aopH_eq]; rfl
theorem acallH_store {ρ : Operand → AV} {g : Option (Nat × Bool)} {t : TypeId} {x y : Operand} : acallH P call H ρ ⟨d, .store t x y, ty, pos, af, g⟩ = outH H (aop P H ρ ⟨d, .store t x y, ty, pos, af, g⟩) := by rw [← aopH_eq]; rfl
theorem acallH_fieldAddr {ρ : Operand → AV} {g : Option (Nat × Bool)} {t : TypeId} {x : Operand} {f : Nat} : acallH P call H ρ ⟨d, .fieldAddr t x f, ty, pos, af, g⟩ = outH H (aop P H ρ ⟨d, .fieldAddr t x f, ty, pos, af, g⟩) := by rw [← aopH_eq]; rfl
theorem acallH_field {ρ : Operand → AV} {g : Option (Nat × Bool)} {t : TypeId} {x : Operand} {f : Nat} : acallH P call H ρ ⟨d, .field t x f, ty, pos, af, g⟩ = outH H (aop P H ρ ⟨d, .field t x f, ty, pos, af, g⟩) := by rw [← aopH_eq]; rfl
theorem acallH_indexAddr {ρ : Operand → AV} {g : Option (Nat × Bool)} {t : TypeId} {x y : Operand} : acallH P call H ρ ⟨d, .indexAddr t x y, ty, pos, af, g⟩ = outH H (aop P H ρ ⟨d, .indexAddr t x y, ty, pos, af, g⟩) := by rw [← aopH_eq]; rfl
theorem acallH_index {ρ : Operand → AV} {g : Option (Nat × Bool)} {t : TypeId} {x y : Operand} : acallH P call H ρ ⟨d, .index t x y, ty, pos, af, g⟩ = outH H (aop P H ρ ⟨d, .index t x y, ty, pos, af, g⟩) := by rw [← aopH_eq]; rfl
theorem acallH_extract {ρ : Operand → AV} {g : Option (Nat × Bool)} {x : Operand} {f : Nat} : acallH P call H ρ ⟨d, .extract x f, ty, pos, af, g⟩ = outH H (aop P H ρ ⟨d, .extract x f, ty, pos, af, g⟩) := by rw [← aopH_eq]; rfl
theorem acallH_alloc {ρ : Operand → AV} {g : Option (Nat × Bool)} {t : TypeId} : acallH P call H ρ ⟨d, .alloc t, ty, pos, af, g⟩ = outH H (aop P H ρ ⟨d, .alloc t, ty, pos, af, g⟩) := by rw [← aopH_eq]; rfl
theorem acallH_box {ρ : Operand → AV} {g : Option (Nat × Bool)} {t : TypeId} {x : Operand} : acallH P call H ρ ⟨d, .box t x, ty, pos, af, g⟩ = outH H (aop P H ρ ⟨d, .box t x, ty, pos, af, g⟩) := by rw [← aopH_eq]; rfl
theorem acallH_build {ρ : Operand → AV} {g : Option (Nat × Bool)} {t : TypeId} {l : Array (Nat × Operand)} : acallH P call H ρ ⟨d, .build t l, ty, pos, af, g⟩ = outH H (aop P H ρ ⟨d, .build t l, ty, pos, af, g⟩) := by rw [← aopH_eq]; rfl
theorem acallH_buildSlice {ρ : Operand → AV} {g : Option (Nat × Bool)} {t : TypeId} {m : Nat} {l : Array (Nat × Operand)} : acallH P call H ρ ⟨d, .buildSlice t m l, ty, pos, af, g⟩ = outH H (aop P H ρ ⟨d, .buildSlice t m l, ty, pos, af, g⟩) := by rw [← aopH_eq]; rfl
theorem acallH_binOp {ρ : Operand → AV} {g : Option (Nat × Bool)} {b : BinOp} {t u : TypeId} {x y : Operand} : acallH P call H ρ ⟨d, .binOp b t x y u, ty, pos, af, g⟩ = outH H (aop P H ρ ⟨d, .binOp b t x y u, ty, pos, af, g⟩) := by rw [← aopH_eq]; rfl
theorem acallH_unOp {ρ : Operand → AV} {g : Option (Nat × Bool)} {b : UnOp} {t : TypeId} {x : Operand} : acallH P call H ρ ⟨d, .unOp b t x, ty, pos, af, g⟩ = outH H (aop P H ρ ⟨d, .unOp b t x, ty, pos, af, g⟩) := by rw [← aopH_eq]; rfl
theorem acallH_slice {ρ : Operand → AV} {g : Option (Nat × Bool)} {t : TypeId} {x : Operand} {a b c : Option Operand} : acallH P call H ρ ⟨d, .slice t x a b c, ty, pos, af, g⟩ = outH H (aop P H ρ ⟨d, .slice t x a b c, ty, pos, af, g⟩) := by rw [← aopH_eq]; rfl
theorem acallH_nilCheck {ρ : Operand → AV} {g : Option (Nat × Bool)} {x : Operand} : acallH P call H ρ ⟨d, .nilCheck x, ty, pos, af, g⟩ = outH H (aop P H ρ ⟨d, .nilCheck x, ty, pos, af, g⟩) := by rw [← aopH_eq]; rfl
theorem acallH_makeFunc {ρ : Operand → AV} {g : Option (Nat × Bool)} {f : Fn} {a b : Array Operand} : acallH P call H ρ ⟨d, .makeFunc f a b, ty, pos, af, g⟩ = outH H (aop P H ρ ⟨d, .makeFunc f a b, ty, pos, af, g⟩) := by rw [← aopH_eq]; rfl
theorem acallH_makeSlice {ρ : Operand → AV} {g : Option (Nat × Bool)} {t : TypeId} {x y : Operand} : acallH P call H ρ ⟨d, .makeSlice t x y, ty, pos, af, g⟩ = outH H (aop P H ρ ⟨d, .makeSlice t x y, ty, pos, af, g⟩) := by rw [← aopH_eq]; rfl
theorem acallH_convert {ρ : Operand → AV} {g : Option (Nat × Bool)} {t u : TypeId} {x : Operand} : acallH P call H ρ ⟨d, .convert t u x, ty, pos, af, g⟩ = outH H (aop P H ρ ⟨d, .convert t u x, ty, pos, af, g⟩) := by rw [← aopH_eq]; rfl
theorem acallH_makeInterface {ρ : Operand → AV} {g : Option (Nat × Bool)} {t : TypeId} {x : Operand} : acallH P call H ρ ⟨d, .makeInterface t x, ty, pos, af, g⟩ = outH H (aop P H ρ ⟨d, .makeInterface t x, ty, pos, af, g⟩) := by rw [← aopH_eq]; rfl
theorem acallH_makeMap {ρ : Operand → AV} {g : Option (Nat × Bool)} {t : TypeId} {q : Option Operand} : acallH P call H ρ ⟨d, .makeMap t q, ty, pos, af, g⟩ = outH H (aop P H ρ ⟨d, .makeMap t q, ty, pos, af, g⟩) := by rw [← aopH_eq]; rfl
theorem acallH_lookup {ρ : Operand → AV} {g : Option (Nat × Bool)} {t : TypeId} {x y : Operand} {b : Bool} : acallH P call H ρ ⟨d, .lookup t x y b, ty, pos, af, g⟩ = outH H (aop P H ρ ⟨d, .lookup t x y b, ty, pos, af, g⟩) := by rw [← aopH_eq]; rfl
theorem acallH_mapUpdate {ρ : Operand → AV} {g : Option (Nat × Bool)} {t : TypeId} {x y z' : Operand} : acallH P call H ρ ⟨d, .mapUpdate t x y z', ty, pos, af, g⟩ = outH H (aop P H ρ ⟨d, .mapUpdate t x y z', ty, pos, af, g⟩) := by rw [← aopH_eq]; rfl
theorem acallH_insert {ρ : Operand → AV} {g : Option (Nat × Bool)} {t : TypeId} {x y z' : Operand} : acallH P call H ρ ⟨d, .insert t x y z', ty, pos, af, g⟩ = outH H (aop P H ρ ⟨d, .insert t x y z', ty, pos, af, g⟩) := by rw [← aopH_eq]; rfl
theorem acallH_mapEntry {ρ : Operand → AV} {g : Option (Nat × Bool)} {t : TypeId} {x y : Operand} : acallH P call H ρ ⟨d, .mapEntry t x y, ty, pos, af, g⟩ = outH H (aop P H ρ ⟨d, .mapEntry t x y, ty, pos, af, g⟩) := by rw [← aopH_eq]; rfl
theorem acallH_entryStore {ρ : Operand → AV} {g : Option (Nat × Bool)} {t : TypeId} {x y z' : Operand} : acallH P call H ρ ⟨d, .entryStore t x y z', ty, pos, af, g⟩ = outH H (aop P H ρ ⟨d, .entryStore t x y z', ty, pos, af, g⟩) := by rw [← aopH_eq]; rfl
theorem acallH_builtin {ρ : Operand → AV} {g : Option (Nat × Bool)} {b : Builtin} {as : Array Operand} {ts : Array TypeId} : acallH P call H ρ ⟨d, .call ⟨.builtin b, as, ts⟩, ty, pos, af, g⟩ = outH H (aop P H ρ ⟨d, .call ⟨.builtin b, as, ts⟩, ty, pos, af, g⟩) := by
  rw [← aopH_eq]
  rfl
def callR (P : Program) (call : Fun) (H : List Blk) (f : AV) (args : List AV) : Option (AV × List Blk) := match f with
  | .fn g caps => match call g (args ++ caps) H with
    | some r => some r
    | none => (aext P g (args ++ caps)).map fun x => (x, H)
  | _ => none
theorem acallH_call {ρ : Operand → AV} {g : Option (Nat × Bool)} {f : Operand} {as : Array Operand} {ts : Array TypeId} {h : FuncId} {caps : List AV} (hf : ρ f = .fn h caps) : acallH P call H ρ ⟨d, .call ⟨.value f, as, ts⟩, ty, pos, af, g⟩ = callR P call H (ρ f) (as.toList.map ρ) := by
  simp only [acallH, callee, hf, callR]
  rfl
theorem wrap_succ {j : Nat} (h : j < 4611686018427387904) : IntKind.i64.wrap ((j : Int) + 1) = ((j + 1 : Nat) : Int) := by
  rw [IntKind.wrap_i64]
  omega
theorem loop_run {b : Code} (S : Nat → St) {x : AX} {s' : St} (hx : x ≠ .normal) : ∀ (m i k : Nat) (s0 : St), prn keep b s0 = S i →
    (∀ j, i ≤ j → j < i + m → (acode P call callD jump pure_ dyn keep n K b (S j)).map (fun p => (p.1, prn keep b p.2)) = some (.normal, S (j + 1))) →
    acode P call callD jump pure_ dyn keep n K b (S (i + m)) = some (x, s') → m < k → loopN (fun s => acode P call callD jump pure_ dyn keep n K b (prn keep b s)) k s0 = some (x, s')
  | 0, i, k, s0, h0, _, he, hk => by
    obtain ⟨k, rfl⟩ : ∃ j, k = j + 1 := ⟨k - 1, by omega⟩
    simp only [loopN]
    rw [Nat.add_zero] at he
    rw [h0, he]
    cases x <;> first | rfl | exact absurd rfl hx
  | m + 1, i, k, s0, h0, hs, he, hk => by
    obtain ⟨k, rfl⟩ : ∃ j, k = j + 1 := ⟨k - 1, by omega⟩
    simp only [loopN]
    have h1 := hs i (Nat.le_refl _) (by omega)
    obtain ⟨⟨x1, s1⟩, e1, e2⟩ := Option.map_eq_some_iff.1 h1
    injection e2 with e2 e3
    cases e2
    rw [h0, e1]
    exact loop_run S hx m (i + 1) k s1 e3 (fun j h1 h2 => hs j (by omega) (by omega)) (by rw [show i + 1 + m = i + (m + 1) by omega]; exact he) (by omega)
def pr (L : List Nat) (s : St) : St := ⟨L.map fun t => (t, eget s.env t), s.heap⟩
theorem pr_eq {L : List Nat} {E : Env} {H : List Blk} : pr L ⟨E, H⟩ = ⟨L.map fun t => (t, eget E t), H⟩ := rfl
def aft (L : List Nat) (r : Option (AX × St)) : Option (AX × St) := r.map fun p => (p.1, pr L p.2)
theorem aft_some {L : List Nat} {x : AX} {s : St} : aft L (some (x, s)) = some (x, pr L s) := rfl
theorem aloop_run {b : Code} {s0 : St} (L : List Nat) (S : Nat → St) {x : AX} {s' : St} (m : Nat) (hL : (firstId b).bind keep = some L) (h0 : pr L s0 = S 0)
    (hs : ∀ j, j < m → aft L (acode P call callD jump pure_ dyn keep n k b (S j)) = some (.normal, S (j + 1)))
    (he : acode P call callD jump pure_ dyn keep n k b (S m) = some (x, s')) (hx : x ≠ .normal) (hk : m < k) : aloop P call callD jump pure_ dyn keep n k b s0 = some (x, s') := by
  have hp : prn keep b = pr L := by
    funext s
    unfold prn pr
    rw [hL]
    rfl
  exact loop_run S hx m 0 k s0 (by rw [hp]; exact h0) (fun j _ h => by rw [hp]; exact hs j (by omega)) (by rw [Nat.zero_add]; exact he) hk
def ends : Option (AX × St) → Bool
  | some (.normal, _) => false
  | some _ => true
  | none => false
theorem ends_e {i : Nat} {s : St} : ends (some (.exit i, s)) = true := rfl
theorem ends_r {s : St} : ends (some (.ret, s)) = true := rfl
theorem ends_g {i : Nat} {s : St} : ends (some (.goto i, s)) = true := rfl
theorem aloop_eq {b : Code} {s0 : St} (L : List Nat) (S : Nat → St) (m : Nat) (hk : m < k) (hL : (firstId b).bind keep = some L) (h0 : pr L s0 = S 0)
    (hs : ∀ j, j < m → aft L (acode P call callD jump pure_ dyn keep n k b (S j)) = some (.normal, S (j + 1)))
    (he : ends (acode P call callD jump pure_ dyn keep n k b (S m)) = true) : aloop P call callD jump pure_ dyn keep n k b s0 = acode P call callD jump pure_ dyn keep n k b (S m) := by
  cases h : acode P call callD jump pure_ dyn keep n k b (S m) with
  | none => rw [h] at he; cases he
  | some p =>
    obtain ⟨x, s'⟩ := p
    rw [h] at he
    exact aloop_run L S m hL h0 hs h (by rintro rfl; cases he) hk
theorem arun_body {P : Program} {C : Cfg} {f : FuncId} {fn : Func} {c : Code} {args : List AV} (hp : C.prim f = none) (hu : C.use f = true) (hf : P.funcs[f]? = some fn) (hb : fn.body = some c) {N : Nat} (hN : max fn.ntmps args.length = N) :
    arun P C (k + 1) f args H = (match acode P (acall C.mode false (arun P C k)) (acall C.mode true (arun P C k)) (jumpN P (acall C.mode false (arun P C k)) (acall C.mode true (arun P C k)) (pureOf C.mode) (C.dyn f) (C.keep f) N k k) (pureOf C.mode) (C.dyn f) (C.keep f) N k c ⟨zipEnv 0 args, H⟩ with
      | some (.normal, s) => (ares P s.heap s.env fn.results.toList).map fun l => (aresult l, s.heap)
      | some (.ret, s) => (ares P s.heap s.env fn.results.toList).map fun l => (aresult l, s.heap)
      | _ => none) := by
  subst hN
  simp only [arun, hp, abody, hu, hf, hb, if_true]
  rfl
end
end Go.Proofs.YtpgipdajinkdgaaGreatA
