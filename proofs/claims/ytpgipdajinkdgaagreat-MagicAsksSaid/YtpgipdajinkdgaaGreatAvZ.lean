/- The evaluator's equations: a part of a row, or of an array. -/
import Derived.Test.YtpgipdajinkdgaaGreatAvY
namespace Go.Proofs.YtpgipdajinkdgaaGreatA
open Go Go.RowKit
set_option linter.all false
set_option linter.unusedSectionVars false
set_option linter.constructorNameAsVariable false
set_option linter.unusedVariables false
def strSl (P : Program) (H : List Blk) (ρ : Operand → AV) (o : Oper) (t : TypeId) (s : ByteArray) (lo hi : Option AV) : Option Res := match P.underlying t, bnd hi s.size s.size with
  | some .string, some h => match bnd lo 0 h with
    | some l => some (.val (.sc (.string (s.extract l h))))
    | none => aop P H ρ o
  | _, _ => aop P H ρ o
theorem bnd_int {v : AV} {d top n : Nat} (h : bnd (some v) d top = some n) : ∃ k m, v = .sc (.int k m) ∧ 0 ≤ m ∧ m ≤ top ∧ n = m.toNat := by
  simp only [bnd] at h
  split at h <;> try (cases h; done)
  rename_i m hm
  split at h <;> try (cases h; done)
  rename_i hc
  cases h
  cases v <;> simp only [aint] at hm <;> try (cases hm; done)
  rename_i u
  cases u <;> simp only [aint] at hm <;> try (cases hm; done)
  rename_i k m'
  cases hm
  exact ⟨k, _, rfl, hc.1, hc.2, rfl⟩
theorem strSl_ok {P : Program} {H : List Blk} {ρ : Operand → AV} {d : Option Tmp} {t ty : TypeId} {pos : String} {af : Array Edge} {g : Option (Nat × Bool)} {x : Operand} {lo hi : Option Operand} {s : ByteArray} (hx : ρ x = .sc (.string s)) :
    aop P H ρ ⟨d, .slice t x lo hi none, ty, pos, af, g⟩ = strSl P H ρ ⟨d, .slice t x lo hi none, ty, pos, af, g⟩ t s (lo.map ρ) (hi.map ρ) := by
  unfold strSl
  split
  · rename_i h hu hh
    split
    · rename_i l hl
      have h0 : toV (ρ x) = some (.string s) := by rw [hx]; rfl
      have key : ∀ (a b : Option Value), (∀ i, lo = some i → toV (ρ i) = a) → (lo = none → a = none) → (∀ i, hi = some i → toV (ρ i) = b) → (hi = none → b = none) → (lo.isSome = true → a.isSome = true) → (hi.isSome = true → b.isSome = true) →
          pureRun P (Instr.sliceAt t (.string s) a b none) = some (.string (s.extract l h)) → aop P H ρ ⟨d, .slice t x lo hi none, ty, pos, af, g⟩ = some (.val (.sc (.string (s.extract l h)))) := by
        intro a b ha ha0 hb hb0 has hbs hr
        have hs : sop P ρ ⟨d, .slice t x lo hi none, ty, pos, af, g⟩ = pOut P (Instr.sliceAt t (.string s) a b none) := by
          cases lo with
          | none =>
            obtain rfl := ha0 rfl
            cases hi with
            | none =>
              obtain rfl := hb0 rfl
              exact sop_v (by simp [Op.operands, h0]) rfl (by simp [execOp, h0])
            | some j =>
              have := hb j rfl
              obtain ⟨b', rfl⟩ := Option.isSome_iff_exists.1 (hbs rfl)
              exact sop_v (by simp [Op.operands, h0, this]) rfl (by simp [execOp, h0, this])
          | some i =>
            have hi' := ha i rfl
            obtain ⟨a', rfl⟩ := Option.isSome_iff_exists.1 (has rfl)
            cases hi with
            | none =>
              obtain rfl := hb0 rfl
              exact sop_v (by simp [Op.operands, h0, hi']) rfl (by simp [execOp, h0, hi'])
            | some j =>
              have := hb j rfl
              obtain ⟨b', rfl⟩ := Option.isSome_iff_exists.1 (hbs rfl)
              exact sop_v (by simp [Op.operands, h0, hi', this]) rfl (by simp [execOp, h0, hi', this])
        have ha : aop P H ρ ⟨d, .slice t x lo hi none, ty, pos, af, g⟩ = (sop P ρ ⟨d, .slice t x lo hi none, ty, pos, af, g⟩).map Res.val := by simp only [aop, hx]
        rw [ha, hs]
        unfold pOut
        rw [hr]
        rfl
      have run : ∀ (a b : Option Value), (match a with | none => l = 0 | some v => ∃ k m, v = .int k m ∧ 0 ≤ m ∧ m ≤ (h : Int) ∧ l = m.toNat) → (match b with | none => h = s.size | some v => ∃ k m, v = .int k m ∧ 0 ≤ m ∧ m ≤ (s.size : Int) ∧ h = m.toNat) →
          pureRun P (Instr.sliceAt t (.string s) a b none) = some (.string (s.extract l h)) := by
        intro a b ha hb
        cases a with
        | none =>
          simp only at ha
          subst ha
          cases b with
          | none =>
            simp only at hb
            subst hb
            simp [Instr.sliceAt, Instr.slice, Instr.sliceBounds, pureRun_bind, pureRun_under hu, pureRun_pure]
          | some v =>
            obtain ⟨k, m, rfl, h1, h2, rfl⟩ := hb
            simp [Instr.sliceAt, Instr.slice, Instr.sliceBounds, Instr.sliceBound, asIntOf, pureRun_bind, pureRun_under hu, pureRun_pure, h1, h2]
        | some v =>
          obtain ⟨k, m, rfl, h1, h2, rfl⟩ := ha
          cases b with
          | none =>
            simp only at hb
            subst hb
            simp [Instr.sliceAt, Instr.slice, Instr.sliceBounds, Instr.sliceBound, asIntOf, pureRun_bind, pureRun_under hu, pureRun_pure, h1, h2]
          | some v =>
            obtain ⟨k', m', rfl, h1', h2', rfl⟩ := hb
            have h3 : m ≤ m' := by omega
            have h4 : m ≤ max m' 0 := by omega
            simp [Instr.sliceAt, Instr.slice, Instr.sliceBounds, Instr.sliceBound, asIntOf, pureRun_bind, pureRun_under hu, pureRun_pure, h1, h2, h1', h2', h3, h4, Int.toNat_of_nonneg]
      cases lo with
      | none =>
        have hl0 : l = 0 := by simpa [bnd] using hl.symm
        cases hi with
        | none =>
          have hh0 : h = s.size := by simpa [bnd] using hh.symm
          exact key none none (fun _ e => by cases e) (fun _ => rfl) (fun _ e => by cases e) (fun _ => rfl) (fun e => by cases e) (fun e => by cases e) (run none none hl0 hh0)
        | some j =>
          obtain ⟨k, m, e, h1, h2, h3⟩ := bnd_int hh
          exact key none (some (.int k m)) (fun _ e => by cases e) (fun _ => rfl) (fun i hi => by cases hi; rw [e]; rfl) (fun e => by cases e) (fun e => by cases e) (fun _ => rfl) (run none _ hl0 ⟨k, m, rfl, h1, h2, h3⟩)
      | some i =>
        obtain ⟨k, m, e, h1, h2, h3⟩ := bnd_int hl
        cases hi with
        | none =>
          have hh0 : h = s.size := by simpa [bnd] using hh.symm
          exact key (some (.int k m)) none (fun j hj => by cases hj; rw [e]; rfl) (fun e => by cases e) (fun _ e => by cases e) (fun _ => rfl) (fun _ => rfl) (fun e => by cases e) (run _ none ⟨k, m, rfl, h1, h2, h3⟩ hh0)
        | some j =>
          obtain ⟨k', m', e', h1', h2', h3'⟩ := bnd_int hh
          exact key (some (.int k m)) (some (.int k' m')) (fun j hj => by cases hj; rw [e]; rfl) (fun e => by cases e) (fun i hi => by cases hi; rw [e']; rfl) (fun e => by cases e) (fun _ => rfl) (fun _ => rfl) (run _ _ ⟨k, m, rfl, h1, h2, h3⟩ ⟨k', m', rfl, h1', h2', h3'⟩)
    · rfl
  · rfl
def aSliceG (P : Program) (H : List Blk) (ρ : Operand → AV) (o : Oper) (t : TypeId) (u : AV) (lo hi : Option AV) : Option Res := match u with
  | .lst sz rows => match P.underlying t, bnd hi rows.length rows.length with
    | some (.slice e), some h => match bnd lo 0 h, szOf P e with
      | some l, some s => if s = sz || rows.isEmpty then some (.val (mkL sz ((rows.take h).drop l))) else none
      | _, _ => none
    | _, _ => none
  | .own b o len sz ver => match P.underlying t, bnd hi len len, blkAt H b ver with
    | some (.slice e), some h, some _ => match bnd lo 0 h, szOf P e with
      | some l, some s => if s = sz then some (.val (if l = h && l != 0 then .lst sz [] else .own b (o + l) (h - l) sz ver)) else none
      | _, _ => none
    | _, _, _ => none
  | .ptr b off ver => match P.underlying t, (none : Option Operand), blkAt H b ver with
    | some (.array n e), none, some blk => match bnd hi n n, szOf P e with
      | some h, some s => match bnd lo 0 h with
        | some l => if 0 < s && off % s == 0 && !blk.grow then some (.val (if l = h then .lst s [] else .own b (off / s + l) (h - l) s ver)) else none
        | none => none
      | _, _ => none
    | _, _, _ => none
  | .sc (.string s) => strSl P H ρ o t s lo hi
  | _ => aop P H ρ o
section
variable {P : Program} {H : List Blk} {ρ : Operand → AV} {d : Option Tmp} {t ty : TypeId} {pos : String} {af : Array Edge} {g : Option (Nat × Bool)} {x i h : Operand}
theorem aop_slice00 : aop P H ρ ⟨d, .slice t x none none none, ty, pos, af, g⟩ = aSliceG P H ρ ⟨d, .slice t x none none none, ty, pos, af, g⟩ t (ρ x) none none := by
  unfold aSliceG
  split
  · rename_i h; simp only [aop, h, Option.map_none]
    rfl
  · rename_i h; simp only [aop, h, Option.map_none]
    rfl
  · rename_i h; simp only [aop, h, Option.map_none]
    rfl
  · rename_i h; exact strSl_ok h
  · rfl
theorem aop_slice10 : aop P H ρ ⟨d, .slice t x (some i) none none, ty, pos, af, g⟩ = aSliceG P H ρ ⟨d, .slice t x (some i) none none, ty, pos, af, g⟩ t (ρ x) (some (ρ i)) none := by
  unfold aSliceG
  split
  · rename_i h; simp only [aop, h, Option.map_none, Option.map_some]
    rfl
  · rename_i h; simp only [aop, h, Option.map_none, Option.map_some]
    rfl
  · rename_i h; simp only [aop, h, Option.map_none, Option.map_some]
    rfl
  · rename_i h; exact strSl_ok h
  · rfl
theorem aop_slice01 : aop P H ρ ⟨d, .slice t x none (some h) none, ty, pos, af, g⟩ = aSliceG P H ρ ⟨d, .slice t x none (some h) none, ty, pos, af, g⟩ t (ρ x) none (some (ρ h)) := by
  unfold aSliceG
  split
  · rename_i h; simp only [aop, h, Option.map_none, Option.map_some]
    rfl
  · rename_i h; simp only [aop, h, Option.map_none, Option.map_some]
    rfl
  · rename_i h; simp only [aop, h, Option.map_none, Option.map_some]
    rfl
  · rename_i h; exact strSl_ok h
  · rfl
theorem slG_str {o : Oper} {s : ByteArray} {lo hi : Option AV} (hu : P.underlying t = some .string) : aSliceG P H ρ o t (.sc (.string s)) lo hi = match bnd hi s.size s.size with
    | some h => (match bnd lo 0 h with
      | some l => some (.val (.sc (.string (s.extract l h))))
      | none => aop P H ρ o)
    | none => aop P H ρ o := by
  simp only [aSliceG, strSl, hu]
  cases bnd hi s.size s.size <;> rfl
theorem bnd_no {n m : Nat} : bnd none n m = some n := rfl
theorem bnd_nat {q : IntKind} {i n m : Nat} : bnd (some (.sc (.int q (i : Nat)))) n m = if i ≤ m then some i else none := by
  simp [bnd, aint]
theorem slG_lst {o : Oper} {sz : Nat} {rows : List (List AV)} {lo hi : Option AV} : aSliceG P H ρ o t (mkL sz rows) lo hi = match P.underlying t, bnd hi rows.length rows.length with
    | some (.slice e), some h => match bnd lo 0 h, szOf P e with
      | some l, some s => if s = sz || rows.isEmpty then some (.val (mkL sz ((rows.take h).drop l))) else none
      | _, _ => none
    | _, _ => none := by
  cases rows with
  | cons r rs => rfl
  | nil =>
    show aSliceG P H ρ o t (.lst 0 []) lo hi = _
    simp only [aSliceG, List.isEmpty_nil, Bool.or_true, if_true, List.take_nil, List.drop_nil, mkL]
theorem slG_own {o : Oper} {b o1 len sz ver : Nat} {lo hi : Option AV} : aSliceG P H ρ o t (.own b o1 len sz ver) lo hi = match P.underlying t, bnd hi len len, blkAt H b ver with
    | some (.slice e), some h, some _ => match bnd lo 0 h, szOf P e with
      | some l, some s => if s = sz then some (.val (if l = h && l != 0 then .lst sz [] else .own b (o1 + l) (h - l) sz ver)) else none
      | _, _ => none
    | _, _, _ => none := rfl
theorem slG_ptr {o : Oper} {b off ver : Nat} {lo hi : Option AV} : aSliceG P H ρ o t (.ptr b off ver) lo hi = match P.underlying t, (none : Option Operand), blkAt H b ver with
    | some (.array n e), none, some blk => match bnd hi n n, szOf P e with
      | some h, some s => match bnd lo 0 h with
        | some l => if 0 < s && off % s == 0 && !blk.grow then some (.val (if l = h then .lst s [] else .own b (off / s + l) (h - l) s ver)) else none
        | none => none
      | _, _ => none
    | _, _, _ => none := rfl
end
def aConv2 (P : Program) (H : List Blk) (ρ : Operand → AV) (o : Oper) (src dst : TypeId) (u : AV) : Option Res := match u with
  | .sc (.int k n) => (pOut P (convert src dst (.int k n))).map .val
  | u => aConv P H ρ o src dst u
section
variable {P : Program} {H : List Blk} {ρ : Operand → AV} {d : Option Tmp} {ty : TypeId} {pos : String} {af : Array Edge} {g : Option (Nat × Bool)}
theorem aop_convert2 {src dst : TypeId} {x : Operand} : aop P H ρ ⟨d, .convert src dst x, ty, pos, af, g⟩ = aConv2 P H ρ ⟨d, .convert src dst x, ty, pos, af, g⟩ src dst (ρ x) := by
  unfold aConv2
  split
  · rename_i k n h
    have h0 : toV (ρ x) = some (.int k n) := by rw [h]; rfl
    rw [aop_convert, h]
    simp only [aConv]
    rw [sop_v (s := convert src dst (.int k n)) (by simp [Op.operands, h0]) rfl (by simp [execOp, h0])]
  · rw [aop_convert]
theorem aConv2_ptr {o : Oper} {src dst : TypeId} {b off ver : Nat} : aConv2 P H ρ o src dst (.ptr b off ver) = aConv P H ρ o src dst (.ptr b off ver) := rfl
theorem aConv2_int {o : Oper} {src dst : TypeId} {k k' : IntKind} {n : Int} (hs : (P.underlying src).isSome = true) (hd : P.underlying dst = some (.int k')) : aConv2 P H ρ o src dst (.sc (.int k n)) = some (.val (.sc (.int k' (k'.wrap n)))) := by
  obtain ⟨d', hd'⟩ := Option.isSome_iff_exists.mp hs
  simp [aConv2, pOut, convert, pureRun_bind, pureRun_under hd', pureRun_under hd, Conv.intToInt, pureRun_pure, ofV]
end
end Go.Proofs.YtpgipdajinkdgaaGreatA

namespace Go.Proofs.YtpgipdajinkdgaaGreatA
open Go Go.RowKit
set_option linter.all false
set_option linter.unusedSectionVars false
set_option linter.constructorNameAsVariable false
set_option linter.unusedVariables false
set_option linter.unusedSimpArgs false
def aMin (P : Program) (x y : AV) : Option Res := match toV x, toV y with
  | some u, some v => (pOut P (Builtin.min_ #[] 0 #[u, v])).map .val
  | _, _ => none
def aMax (P : Program) (x y : AV) : Option Res := match toV x, toV y with
  | some u, some v => (pOut P (Builtin.max_ #[] 0 #[u, v])).map .val
  | _, _ => none
section
variable {P : Program} {H : List Blk} {ρ : Operand → AV} {d : Option Tmp} {t u ty : TypeId} {pos : String} {af : Array Edge} {g : Option (Nat × Bool)} {x y : Operand}
theorem sop_none2 {o : Oper} {x y : Operand} (ho : o.op.operands = #[x, y]) (h : toV (ρ x) = none ∨ toV (ρ y) = none) : sop P ρ o = none := by
  refine sop_no ?_
  rw [ho]
  rcases h with h | h <;> simp [h]
theorem aop_min : aop P H ρ ⟨d, .call ⟨.builtin .min, #[x, y], #[t, u]⟩, ty, pos, af, g⟩ = aMin P (ρ x) (ρ y) := by
  have hs : (sop P ρ ⟨d, .call ⟨.builtin .min, #[x, y], #[t, u]⟩, ty, pos, af, g⟩).map Res.val = aMin P (ρ x) (ρ y) := by
    unfold aMin
    cases h : toV (ρ x) with
    | none => rw [sop_none2 (x := x) (y := y) rfl (.inl h)]; rfl
    | some a =>
      cases h2 : toV (ρ y) with
      | none => rw [sop_none2 (x := x) (y := y) rfl (.inr h2)]; rfl
      | some b => rw [sop_v (s := Builtin.min_ #[] 0 #[a, b]) (by simp [Op.operands, Call.operands, h, h2]) rfl (by simp [execOp, resolve, invoke, builtin, h, h2, Builtin.min_])]
  rw [← hs]
  rfl
theorem aop_max : aop P H ρ ⟨d, .call ⟨.builtin .max, #[x, y], #[t, u]⟩, ty, pos, af, g⟩ = aMax P (ρ x) (ρ y) := by
  have hs : (sop P ρ ⟨d, .call ⟨.builtin .max, #[x, y], #[t, u]⟩, ty, pos, af, g⟩).map Res.val = aMax P (ρ x) (ρ y) := by
    unfold aMax
    cases h : toV (ρ x) with
    | none => rw [sop_none2 (x := x) (y := y) rfl (.inl h)]; rfl
    | some a =>
      cases h2 : toV (ρ y) with
      | none => rw [sop_none2 (x := x) (y := y) rfl (.inr h2)]; rfl
      | some b => rw [sop_v (s := Builtin.max_ #[] 0 #[a, b]) (by simp [Op.operands, Call.operands, h, h2]) rfl (by simp [execOp, resolve, invoke, builtin, h, h2, Builtin.max_])]
  rw [← hs]
  rfl
theorem aMin_int {k j : IntKind} {m n : Int} : aMin P (.sc (.int k m)) (.sc (.int j n)) = some (.val (.sc (.int k (if n < m then n else m)))) := by
  simp [aMin, toV, pOut, Builtin.min_, Builtin.min2, pureRun_pure, ofV]
theorem aMax_int {k j : IntKind} {m n : Int} : aMax P (.sc (.int k m)) (.sc (.int j n)) = some (.val (.sc (.int k (if m < n then n else m)))) := by
  simp [aMax, toV, pOut, Builtin.max_, Builtin.max2, pureRun_pure, ofV]
theorem aBin_mulI {p q : Operand} {k : IntKind} {m n : Int} : aBin P H .mul t p q (.sc (.int k m)) (.sc (.int k n)) = some (.val (.sc (.int k (k.wrap (m * n))))) := by
  unfold aBin
  rw [nilTest_flat' rfl rfl, ptrTest_flat' rfl]
  simp [toV, pOut, eqGuard, binOp, Op.intArith, pureRun, ofV, pureRun_bind, pureRun_pure, beq_int, bne_int]
theorem ixo_eq {t e b j n sz ver i : Nat} {k : IntKind} (ht : P.underlying t = some (.slice e)) (hs : szOf P e = some sz) : aIndexAddr P H t (.own b j n sz ver) (.sc (.int k (i : Nat))) = (match blkAt H b ver with | some _ => if i < n then some (.val (.ptr b ((j + i) * sz) ver)) else none | none => none) := by
  unfold aIndexAddr
  rw [ht]
  simp only [aint]
  cases h : blkAt H b ver with
  | none => simp [h, hs]
  | some blk => simp [h, hs, Int.toNat_natCast]
def aClear (P : Program) (H : List Blk) (t : TypeId) (u : AV) (alt : Option Res) : Option Res := match P.underlying t with
  | some (.slice e) => match u with
    | .lst _ [] => some (.val (.tup []))
    | .own b o len sz ver => match blkAt H b ver, P.info? e with
      | some blk, some i => match i.zero with
        | some zv => if 0 < i.size && sz == i.size && zv.cells.size == i.size && zv.cells.toList.all Value.oneCell' && (o + len) * sz ≤ blk.cells.length then
            some (if len = 0 then .val (.tup []) else .upd (.tup []) b { blk with cells := splice blk.cells (o * sz) (List.replicate len (zv.cells.toList.map AV.sc)).flatten }) else none
        | none => none
      | _, _ => none
    | _ => alt
  | _ => none
theorem aop_clear : aop P H ρ ⟨d, .call ⟨.builtin .clear, #[x], #[t]⟩, ty, pos, af, g⟩ = aClear P H t (ρ x) ((sop P ρ ⟨d, .call ⟨.builtin .clear, #[x], #[t]⟩, ty, pos, af, g⟩).map .val) := rfl
def zerosOk (P : Program) (t e sz : Nat) (zs : List AV) : Bool := match P.underlying t, P.info? e with
  | some (.slice e'), some i => match i.zero with
    | some zv => Nat.beq e' e && i.size == sz && decide (0 < sz) && zv.cells.size == sz && zv.cells.toList.all Value.oneCell' && decide (zv.cells.toList.length = zs.length)
    | none => false
  | _, _ => false
theorem aClear_own {t e sz : Nat} {b o n ver : Nat} {zs : List AV} {alt : Option Res} (h : zerosOk P t e sz zs = true) (hz : ((P.info? e).bind (·.zero)).map (fun zv => zv.cells.toList.map AV.sc) = some zs) : aClear P H t (.own b o n sz ver) alt = (match blkAt H b ver with
    | some blk => if (o + n) * sz ≤ blk.cells.length then some (if n = 0 then .val (.tup []) else .upd (.tup []) b { blk with cells := splice blk.cells (o * sz) (List.replicate n zs).flatten }) else none
    | none => none) := by
  unfold zerosOk at h
  split at h <;> try (cases h; done)
  rename_i e' i hu hi
  split at h <;> try (cases h; done)
  rename_i zv hzv
  simp only [Bool.and_eq_true, beq_iff_eq, decide_eq_true_eq] at h
  obtain ⟨⟨⟨⟨⟨h1, h2⟩, h3⟩, h4⟩, h5⟩, h6⟩ := h
  cases Nat.eq_of_beq_eq_true h1
  rw [hi] at hz
  simp only [Option.bind_some, hzv, Option.map_some, Option.some.injEq] at hz
  subst h2
  unfold aClear
  rw [hu]
  dsimp only
  cases hb : blkAt H b ver with
  | none => rfl
  | some blk =>
    simp only [hi, hzv, hz]
    have : (decide (0 < i.size) && i.size == i.size && zv.cells.size == i.size && zv.cells.toList.all Value.oneCell' && decide ((o + n) * i.size ≤ blk.cells.length)) = decide ((o + n) * i.size ≤ blk.cells.length) := by
      simp only [h3, h4, h5, beq_self_eq_true, decide_true, Bool.and_self, Bool.true_and]
    rw [this]
    simp only [decide_eq_true_eq]
theorem ixa_eq {t e len i : Nat} {q : IntKind} {cs : List AV} (ht : P.underlying t = some (.array len e)) (hs : szOf P e = some 1) (hi : i < len) (hc : i ≤ cs.length) : aIndexAddr P H t (.ro cs) (.sc (.int q (i : Nat))) = some (.val (.ro (cs.drop i))) := by
  unfold aIndexAddr
  rw [ht]
  simp only [aint, hs, Nat.mul_one, Int.toNat_natCast]
  rw [if_pos (by simp; omega), if_pos hc]
def aMk (P : Program) (H : List Blk) (t : TypeId) (l c : AV) : Option Res := match P.underlying t with
    | some (.slice e) =>
      match P.info? e with
      | some i => match i.zero, aint l, aint c with
        | some zv, some nl, some nc =>
          if 0 < i.size && zv.cells.size == i.size && zv.cells.toList.all Value.oneCell' && 0 ≤ nl && nl ≤ nc && (nc.toNat * i.bytes ≤ 140737488355328) && nc.toNat ≤ maxLen then
            some (.new (.own H.length 0 nl.toNat i.size 0) ⟨e, i.size, 0, true, (List.replicate nl.toNat (zv.cells.toList.map AV.sc)).flatten, .cells⟩)
          else none
        | _, _, _ => none
      | none => none
    | _ => none
theorem aop_makeSlice : aop P H ρ ⟨d, .makeSlice t x y, ty, pos, af, g⟩ = aMk P H t (ρ x) (ρ y) := rfl
theorem aMk_nn {t e sz bytes n : Nat} {q q' : IntKind} {zs : List AV} (h : zerosOk P t e sz zs = true) (hz : ((P.info? e).bind (·.zero)).map (fun zv => zv.cells.toList.map AV.sc) = some zs) (hb : (P.info? e).map (·.bytes) = some bytes) : aMk P H t (.sc (.int q (n : Nat))) (.sc (.int q' (n : Nat))) = if (decide (n * bytes ≤ 140737488355328) && decide (n ≤ maxLen)) = true then some (.new (.own H.length 0 n sz 0) ⟨e, sz, 0, true, (List.replicate n zs).flatten, .cells⟩) else none := by
  unfold zerosOk at h
  split at h <;> try (cases h; done)
  rename_i e' i hu hi
  split at h <;> try (cases h; done)
  rename_i zv hzv
  simp only [Bool.and_eq_true, beq_iff_eq, decide_eq_true_eq] at h
  obtain ⟨⟨⟨⟨⟨h1, h2⟩, h3⟩, h4⟩, h5⟩, h6⟩ := h
  cases Nat.eq_of_beq_eq_true h1
  rw [hi] at hz hb
  simp only [Option.bind_some, hzv, Option.map_some, Option.some.injEq] at hz hb
  subst h2 hb
  unfold aMk
  rw [hu]
  simp only [hi, hzv, aint, Int.toNat_natCast, hz]
  have : (decide (0 < i.size) && zv.cells.size == i.size && zv.cells.toList.all Value.oneCell' && decide (0 ≤ (n : Int)) && decide ((n : Int) ≤ (n : Int)) && decide (n * i.bytes ≤ 140737488355328) && decide (n ≤ maxLen)) = (decide (n * i.bytes ≤ 140737488355328) && decide (n ≤ maxLen)) := by
    simp only [h3, h4, h5, beq_self_eq_true, decide_true, Bool.and_self, Bool.true_and, Int.le_refl, Int.natCast_nonneg]
  rw [this]
theorem wrap_nat {a : Nat} (h : a < 9000000000000000000) : IntKind.i64.wrap (a : Int) = a := by
  simp [IntKind.wrap, IntKind.bits, IntKind.signed]; omega
theorem wrap_i64 {a : Int} (h1 : -9000000000000000000 < a) (h : a < 9000000000000000000) : IntKind.i64.wrap a = a := by
  simp [IntKind.wrap, IntKind.bits, IntKind.signed]; omega
end
def numbered : Nat → List AV → List (Nat × AV)
  | _, [] => []
  | k, u :: us => (k, u) :: numbered (k + 1) us
theorem afill_rows {sz : Nat} : ∀ (us : List AV) (pre z : List AV) (k : Nat), pre.length = k * sz → z.length = us.length * sz → (∀ u ∈ us, solid u = true ∧ (acells u).length = sz) → afill (fun j => some (j * sz, sz)) (pre ++ z) (numbered k us) = some (pre ++ (us.map acells).flatten)
  | [], pre, z, k, h1, h2, h3 => by
    have : z = [] := by simpa using h2
    subst this
    simp [numbered, afill]
  | u :: us, pre, z, k, h1, h2, h3 => by
    obtain ⟨hs, hl⟩ := h3 u (by simp)
    simp only [List.length_cons, Nat.add_mul, Nat.one_mul] at h2
    have hc : (solid u && (acells u).length == sz && decide (k * sz + sz ≤ (pre ++ z).length)) = true := by
      rw [hs, hl, List.length_append, h1, h2]
      simp
    have hsp : splice (pre ++ z) (k * sz) (acells u) = (pre ++ acells u) ++ z.drop sz := by
      unfold splice
      rw [← h1, List.take_left', hl, List.drop_append, List.drop_eq_nil_of_le (by omega), List.nil_append]
      · congr 2
        omega
      · rfl
    simp only [numbered, afill]
    rw [if_pos hc, hsp]
    rw [afill_rows us (pre ++ acells u) (z.drop sz) (k + 1) (by rw [List.length_append, h1, hl, Nat.add_mul, Nat.one_mul]) (by rw [List.length_drop]; omega) (fun v hv => h3 v (by simp [hv]))]
    simp
def aBSL (P : Program) (H : List Blk) (t : TypeId) (len : Nat) (l : List (Nat × AV)) : Option Res :=
    match P.underlying t with
    | some (.slice e) =>
      match P.info? e with
      | some i => match i.zero with
        | some zv =>
          if 0 < i.size && zv.cells.size == i.size && zv.cells.toList.all Value.oneCell' && len * i.size ≤ 16777216 then
            match afill (fun j => some (j * i.size, i.size)) ((List.replicate len (zv.cells.toList.map AV.sc)).flatten) l with
            | some cs => if cs.all one then some (.new (if len = 0 then .z else .own H.length 0 len i.size 0) ⟨e, i.size, 0, true, cs, .cells⟩) else none
            | none => none
          else none
        | none => none
      | none => none
    | _ => none
theorem bsl_eq {P : Program} {H : List Blk} {t e : TypeId} {sz bytes : Nat} (us : List AV) (ht : rowOk P t e sz bytes = true) (hn : us ≠ []) (hb : us.length * sz ≤ 16777216) (h : ∀ u ∈ us, solid u = true ∧ (acells u).length = sz ∧ (acells u).all one = true) :
    aBSL P H t us.length (numbered 0 us) = some (.new (.own H.length 0 us.length sz 0) ⟨e, sz, 0, true, (us.map acells).flatten, .cells⟩) := by
  obtain ⟨i, zv, hu, hi, hz, rfl, rfl, hpos, hzs, hz1, hbig⟩ := rowOk_at ht
  have hcond : (decide (0 < i.size) && zv.cells.size == i.size && zv.cells.toList.all Value.oneCell' && decide (us.length * i.size ≤ 16777216)) = true := by
    simp only [Bool.and_eq_true, decide_eq_true_eq, beq_iff_eq]
    exact ⟨⟨⟨hpos, hzs⟩, hz1⟩, hb⟩
  have hzl : ((List.replicate us.length (zv.cells.toList.map AV.sc)).flatten).length = us.length * i.size := by
    rw [flat_len' (sz := i.size)]
    · simp
    · intro r hr
      obtain ⟨_, rfl⟩ := List.mem_replicate.1 hr
      simpa using hzs
  have hf := afill_rows (sz := i.size) us [] _ 0 (by simp) hzl (fun u hu => ⟨(h u hu).1, (h u hu).2.1⟩)
  simp only [List.nil_append] at hf
  have hone : ((us.map acells).flatten).all one = true := by
    rw [List.all_flatten, List.all_eq_true]
    intro r hr
    obtain ⟨u, hu, rfl⟩ := List.mem_map.1 hr
    exact (h u hu).2.2
  have hl0 : us.length ≠ 0 := fun h => hn (List.length_eq_zero_iff.1 h)
  simp only [aBSL, hu, hi, hz]
  rw [if_pos hcond, hf]
  simp only [hone, if_true, if_neg hl0]
def okU (sz : Nat) (u : AV) : Bool := solid u && decide ((acells u).length = sz) && (acells u).all one
theorem okU_at {sz : Nat} {u : AV} (h : okU sz u = true) : solid u = true ∧ (acells u).length = sz ∧ (acells u).all one = true := by
  unfold okU at h
  simp only [Bool.and_eq_true, decide_eq_true_eq] at h
  exact ⟨h.1.1, h.1.2, h.2⟩
theorem bs2_if {P : Program} {H : List Blk} {ρ : Operand → AV} {d : Option Tmp} {ty t e : TypeId} {sz bytes : Nat} {x y : Operand} {pos : String} {af : Array Edge} {g : Option (Nat × Bool)} (ht : rowOk P t e sz bytes = true) (hb : 2 * sz ≤ 16777216) : aop P H ρ ⟨d, .buildSlice t 2 #[(0, x), (1, y)], ty, pos, af, g⟩ = if (okU sz (ρ x) && okU sz (ρ y)) = true then some (.new (.own H.length 0 2 sz 0) ⟨e, sz, 0, true, acells (ρ x) ++ acells (ρ y), .cells⟩) else aBSL P H t 2 [(0, ρ x), (1, ρ y)] := by
  split
  · rename_i h
    simp only [Bool.and_eq_true] at h
    have := bsl_eq (H := H) [ρ x, ρ y] ht (by simp) (by simpa using hb) (fun u hu => by
      simp only [List.mem_cons, List.not_mem_nil, or_false] at hu
      rcases hu with rfl | rfl
      · exact okU_at h.1
      · exact okU_at h.2)
    simp only [List.length_cons, List.length_nil, List.map_cons, List.map_nil, List.flatten_cons, List.flatten_nil, List.append_nil] at this
    exact this
  · rfl
theorem bs3_if {P : Program} {H : List Blk} {ρ : Operand → AV} {d : Option Tmp} {ty t e : TypeId} {sz bytes : Nat} {x y z : Operand} {pos : String} {af : Array Edge} {g : Option (Nat × Bool)} (ht : rowOk P t e sz bytes = true) (hb : 3 * sz ≤ 16777216) : aop P H ρ ⟨d, .buildSlice t 3 #[(0, x), (1, y), (2, z)], ty, pos, af, g⟩ = if (okU sz (ρ x) && okU sz (ρ y) && okU sz (ρ z)) = true then some (.new (.own H.length 0 3 sz 0) ⟨e, sz, 0, true, acells (ρ x) ++ (acells (ρ y) ++ acells (ρ z)), .cells⟩) else aBSL P H t 3 [(0, ρ x), (1, ρ y), (2, ρ z)] := by
  split
  · rename_i h
    simp only [Bool.and_eq_true] at h
    have := bsl_eq (H := H) [ρ x, ρ y, ρ z] ht (by simp) (by simpa using hb) (fun u hu => by
      simp only [List.mem_cons, List.not_mem_nil, or_false] at hu
      rcases hu with rfl | rfl | rfl
      · exact okU_at h.1.1
      · exact okU_at h.1.2
      · exact okU_at h.2)
    simp only [List.length_cons, List.length_nil, List.map_cons, List.map_nil, List.flatten_cons, List.flatten_nil, List.append_nil] at this
    exact this
  · rfl
theorem aloop_eqR {call callD : Fun} {jump : Code → Code → St → Option (AX × St)} {pure_ : FuncId → Bool} {dyn : Nat → Bool} {keep : Nat → Option (List Nat)} {n k : Nat} {P : Program} {b : Code} {s0 : St} {A : Option (AX × St)} (hA : aloop P call callD jump pure_ dyn keep n k b s0 = A) (L : List Nat) (S : Nat → St) (m : Nat) (hk : m < k) (hL : (firstId b).bind keep = some L) (h0 : pr L s0 = S 0)
    (hs : ∀ j, j < m → aft L (acode P call callD jump pure_ dyn keep n k b (S j)) = some (.normal, S (j + 1))) {R : AX × St} (he : acode P call callD jump pure_ dyn keep n k b (S m) = some R) (hR : ends (some R) = true) : A = some R := by
  subst hA
  rw [aloop_eq L S m hk hL h0 hs (by rw [he]; exact hR), he]
theorem aloop_T {call callD : Fun} {jump : Code → Code → St → Option (AX × St)} {pure_ : FuncId → Bool} {dyn : Nat → Bool} {keep : Nat → Option (List Nat)} {n k : Nat} {P : Program} {b : Code} {s0 : St} {A : Option (AX × St)} (hA : aloop P call callD jump pure_ dyn keep n k b s0 = A) (L : List Nat) (I : Nat → St → Prop) (T : AX × St → Prop) (m : Nat) (hk : m < k) (hL : (firstId b).bind keep = some L) (h0 : I 0 (pr L s0))
    (hs : ∀ j, j < m → ∀ s, I j s → (∃ s1, aft L (acode P call callD jump pure_ dyn keep n k b s) = some (.normal, s1) ∧ I (j + 1) s1) ∨ (∃ R, acode P call callD jump pure_ dyn keep n k b s = some R ∧ ends (some R) = true ∧ T R))
    (he : ∀ s, I m s → ∃ R, acode P call callD jump pure_ dyn keep n k b s = some R ∧ ends (some R) = true ∧ T R) : ∃ R, A = some R ∧ T R := by
  obtain ⟨j, s, hj, hI, ⟨R, h1, h2⟩, e⟩ := aloop_last hA L I (fun j s => ∃ R, acode P call callD jump pure_ dyn keep n k b s = some R ∧ T R) m hk hL h0 (fun j hj s hI => by
    by_cases h : j < m
    · rcases hs j h s hI with ⟨s1, e, h1⟩ | ⟨R, e, hR, hT⟩
      · left; exact ⟨h, s1, e, h1⟩
      · right; exact ⟨⟨R, e, hT⟩, by rw [e]; exact hR⟩
    · obtain rfl : j = m := by omega
      obtain ⟨R, e, hR, hT⟩ := he s hI
      right; exact ⟨⟨R, e, hT⟩, by rw [e]; exact hR⟩)
  exact ⟨R, by rw [e, h1], h2⟩
def HB (H : List Blk) (b e sz ver : Nat) (rows : List (List AV)) : List Blk := H.set b ⟨e, sz, ver, true, rows.flatten, .cells⟩
section
variable {P : Program} {H : List Blk} {b e sz ver : Nat} {rows : List (List AV)}
theorem hb_get (hb : b < H.length) : (HB H b e sz ver rows)[b]? = some ⟨e, sz, ver, true, rows.flatten, .cells⟩ := by
  unfold HB
  rw [List.getElem?_set_self hb]
theorem hb_set {rows2 : List (List AV)} : (HB H b e sz ver rows).set b ⟨e, sz, ver, true, rows2.flatten, .cells⟩ = HB H b e sz ver rows2 := by
  unfold HB
  rw [List.set_set]
theorem flat_len2 (hr : ∀ r ∈ rows, r.length = sz) : rows.flatten.length = rows.length * sz := flat_len' hr
theorem rd_row {i : Nat} {r : List AV} (hr : ∀ r ∈ rows, r.length = sz) (hi : rows[i]? = some r) : rdCells rows.flatten (i * sz) sz = some r := by
  have hlt : i < rows.length := by rcases Nat.lt_or_ge i rows.length with h | h; exact h; rw [List.getElem?_eq_none h] at hi; cases hi
  have hle : i * sz + sz ≤ rows.length * sz := by
    have := Nat.mul_le_mul_right sz (show i + 1 ≤ rows.length from hlt)
    rwa [Nat.add_mul, Nat.one_mul] at this
  unfold rdCells
  rw [if_pos (by rw [flat_len2 hr]; exact hle), flat_at hr hi]
theorem splice_row {i : Nat} {r : List AV} (hr : ∀ r ∈ rows, r.length = sz) (hl : r.length = sz) (hi : i < rows.length) : splice rows.flatten (i * sz) r = (rows.set i r).flatten := by
  unfold splice
  have h1 : rows.flatten.take (i * sz) = (rows.take i).flatten := by
    have e0 : rows.flatten = (rows.take i).flatten ++ (rows.drop i).flatten := by rw [← List.flatten_append, List.take_append_drop]
    rw [e0, List.take_left']
    rw [flat_len' (fun x hx => hr x (List.mem_of_mem_take hx)), List.length_take, Nat.min_eq_left (by omega)]
  have h2 : rows.flatten.drop (i * sz + r.length) = (rows.drop (i + 1)).flatten := by
    rw [hl, flat_drop (i + 1) hr, Nat.add_mul, Nat.one_mul]
  rw [h1, h2, List.set_eq_take_append_cons_drop, if_pos hi]
  simp
end
theorem app_oj {P : Program} {H : List Blk} {t e : TypeId} {sz bytes b ver : Nat} {rows more : List (List AV)} {junk : List AV} (ht : rowOk P t e sz bytes = true) (hk : H[b]? = some ⟨e, sz, ver, true, rows.flatten ++ junk, .cells⟩) (hr : ∀ r ∈ rows, r.length = sz) (hne : more ≠ []) (hm : ∀ r ∈ more, r.all one = true) (hb : (rows.length + more.length) * bytes ≤ 140737488355328) (hx : rows.length + more.length ≤ maxLen) :
    aappend P H t (.own b 0 rows.length sz ver) (mkL sz more) = some (.upd (.own b 0 (rows.length + more.length) sz (ver + 1)) b ⟨e, sz, ver + 1, true, rows.flatten ++ more.flatten, .cells⟩) := by
  obtain ⟨i, zv, hu, hi, hz, rfl, rfl, hpos, hzs, _, _⟩ := rowOk_at ht
  have hcond : (decide (0 < i.size) && zv.cells.size == i.size) = true := by simp [hpos, hzs]
  have hone : more.flatten.all one = true := by
    rw [List.all_flatten, List.all_eq_true]
    exact hm
  have hfl := flat_len' hr
  have hle : rows.length * i.size ≤ (rows.flatten ++ junk).length := by rw [List.length_append, hfl]; omega
  simp only [aappend, hu, hi, hz, hcond, if_true, elems_mkL, hone]
  rw [blkAt_some' hk rfl rfl]
  simp only [hle, decide_true, beq_self_eq_true, Bool.and_true, Bool.true_and]
  rw [if_pos (by simp; omega), if_neg (by simpa using hne), List.take_left' hfl]
section jumps
variable {P : Program} {call callD : Fun} {pure_ : FuncId → Bool} {dyn : Nat → Bool} {keep : Nat → Option (List Nat)} {n k : Nat}
def inScope (jump : Code → Code → St → Option (AX × St)) (b : Code) (r : Option (AX × St)) : Option (AX × St) := match r with
  | some (.goto l, s') => match findLabel b l with
    | some rest => jump b rest s'
    | none => some (.goto l, s')
  | r => r
theorem acode_scope {jump : Code → Code → St → Option (AX × St)} {b : Code} {s : St} : acode P call callD jump pure_ dyn keep n k (.scope b) s = inScope jump b (acode P call callD jump pure_ dyn keep n k b s) := by
  simp only [acode, inScope]
  rfl
theorem inScope_n {jump : Code → Code → St → Option (AX × St)} {b : Code} {s : St} : inScope jump b (some (.normal, s)) = some (.normal, s) := rfl
theorem inScope_r {jump : Code → Code → St → Option (AX × St)} {b : Code} {s : St} : inScope jump b (some (.ret, s)) = some (.ret, s) := rfl
theorem inScope_e {jump : Code → Code → St → Option (AX × St)} {b : Code} {i : Nat} {s : St} : inScope jump b (some (.exit i, s)) = some (.exit i, s) := rfl
def isGoto : AX → Bool
  | .goto _ => true
  | _ => false
theorem jump_T {b rest : Code} {l0 : Nat} (hl : findLabel b l0 = some rest) (I : Nat → St → Prop) (T : AX × St → Prop) (m : Nat)
    (hs : ∀ i, i < m → ∀ s j, I i s → (∃ s1, acode P call callD (jumpN P call callD pure_ dyn keep n k j) pure_ dyn keep n k rest s = some (.goto l0, s1) ∧ I (i + 1) s1) ∨ (∃ R, acode P call callD (jumpN P call callD pure_ dyn keep n k j) pure_ dyn keep n k rest s = some R ∧ isGoto R.1 = false ∧ T R))
    (he : ∀ s j, I m s → ∃ R, acode P call callD (jumpN P call callD pure_ dyn keep n k j) pure_ dyn keep n k rest s = some R ∧ isGoto R.1 = false ∧ T R) :
    ∀ (d i : Nat), i + d = m → ∀ (j : Nat), d < j → ∀ s, I i s → ∃ R, jumpN P call callD pure_ dyn keep n k j b rest s = some R ∧ T R := by
  have fin : ∀ (j : Nat) (s : St) (R : AX × St), acode P call callD (jumpN P call callD pure_ dyn keep n k j) pure_ dyn keep n k rest s = some R → isGoto R.1 = false → jumpN P call callD pure_ dyn keep n k (j + 1) b rest s = some R := by
    intro j s R e hg
    obtain ⟨x, s'⟩ := R
    simp only [jumpN, e]
    cases x <;> first | rfl | cases hg
  intro d
  induction d with
  | zero =>
    intro i hi j hj s hI
    obtain ⟨j, rfl⟩ : ∃ q, j = q + 1 := ⟨j - 1, by omega⟩
    obtain rfl : i = m := by omega
    obtain ⟨R, e, hg, hT⟩ := he s j hI
    exact ⟨R, fin j s R e hg, hT⟩
  | succ d ih =>
    intro i hi j hj s hI
    obtain ⟨j, rfl⟩ : ∃ q, j = q + 1 := ⟨j - 1, by omega⟩
    rcases hs i (by omega) s j hI with ⟨s1, e, h1⟩ | ⟨R, e, hg, hT⟩
    · obtain ⟨R, e2, hT⟩ := ih (i + 1) (by omega) j (by omega) s1 h1
      refine ⟨R, ?_, hT⟩
      simp only [jumpN, e, hl]
      exact e2
    · exact ⟨R, fin j s R e hg, hT⟩
theorem jump_Tx {b rest : Code} {j0 : Nat} {s0 : St} {J : Option (AX × St)} (hJ : jumpN P call callD pure_ dyn keep n k j0 b rest s0 = J) (l0 : Nat) (hl : findLabel b l0 = some rest) (I : Nat → St → Prop) (T : AX × St → Prop) (m : Nat) (hj : m < j0) (h0 : I 0 s0)
    (hs : ∀ i, i < m → ∀ s j, I i s → (∃ s1, acode P call callD (jumpN P call callD pure_ dyn keep n k j) pure_ dyn keep n k rest s = some (.goto l0, s1) ∧ I (i + 1) s1) ∨ (∃ R, acode P call callD (jumpN P call callD pure_ dyn keep n k j) pure_ dyn keep n k rest s = some R ∧ isGoto R.1 = false ∧ T R))
    (he : ∀ s j, I m s → ∃ R, acode P call callD (jumpN P call callD pure_ dyn keep n k j) pure_ dyn keep n k rest s = some R ∧ isGoto R.1 = false ∧ T R) : ∃ R, J = some R ∧ T R := by
  subst hJ
  exact jump_T hl I T m hs he m 0 (by omega) j0 hj s0 h0
end jumps
def findLoop (id : Nat) : Code → Option Code
  | .loop b => if firstId b = some id then some b else findLoop id b
  | .seq a b => match findLoop id a with
    | some c => some c
    | none => findLoop id b
  | .cond _ a b => match findLoop id a with
    | some c => some c
    | none => findLoop id b
  | .block _ b => findLoop id b
  | .scope b => findLoop id b
  | _ => none
def loopAt (f : Func) (id : Nat) : Code := match f.body with
  | some c => (findLoop id c).getD .skip
  | none => .skip
end Go.Proofs.YtpgipdajinkdgaaGreatA

namespace Go.Proofs.YtpgipdajinkdgaaGreatA
open Go Go.RowKit
set_option linter.all false
set_option linter.unusedSectionVars false
set_option linter.constructorNameAsVariable false
theorem aj {a b : Prop} (x : a) (y : b) : a ∧ b := ⟨x, y⟩
def R0 := (aj (aj (aj (aj (aj (aj (aj (aj @acode_skip @acode_ret) (aj @acode_exit @acode_goto)) (aj (aj @acode_label @acode_loop) (aj @acode_plain (aj @acode_seq @andThen_n)))) (aj (aj (aj @andThen_r @andThen_e) (aj @andThen_g @acode_cond)) (aj (aj @acond_t @acond_f) (aj @acode_block (aj @inBlk_n @inBlk_r))))) (aj (aj (aj (aj @inBlk_e @inBlk_g) (aj @aops_go @aops_guard)) (aj (aj @whenB_t @whenB_f) (aj @awanted_at (aj @guardB_b @guardB_u)))) (aj (aj (aj @next_some @putR_some) (aj @putR_no (aj @outH_val @outH_new))) (aj (aj @outH_upd @acallH_move) (aj @acallH_assign (aj @acallH_pick @acallH_load)))))) (aj (aj (aj (aj (aj @acallH_store @acallH_fieldAddr) (aj @acallH_field @acallH_indexAddr)) (aj (aj @acallH_index @acallH_extract) (aj @acallH_alloc (aj @acallH_box @acallH_build)))) (aj (aj (aj @acallH_buildSlice @acallH_binOp) (aj @acallH_unOp (aj @acallH_slice @acallH_nilCheck))) (aj (aj @acallH_makeFunc @acallH_makeSlice) (aj @acallH_convert (aj @acallH_makeInterface @acallH_makeMap))))) (aj (aj (aj (aj @acallH_lookup @acallH_mapUpdate) (aj @acallH_insert @acallH_mapEntry)) (aj (aj @acallH_entryStore @acallH_builtin) (aj @aop_bin (aj @aop_len @aLen_S)))) (aj (aj (aj @aop_un @aUn_not) (aj @aop_index (aj @aIndex_S @aop_move))) (aj (aj @aop_assign @aop_pick) (aj @aPick_b (aj @aop_load @aop_store))))))) (aj (aj (aj (aj (aj (aj @aop_fieldAddr @aop_field) (aj @aop_indexAddr @aop_extract)) (aj (aj @aop_box @aBin_eqlI) (aj @aBin_neqI (aj @aBin_lssI @aBin_leqI)))) (aj (aj (aj @aBin_gtrI @aBin_geqI) (aj @aBin_addI (aj @aBin_subI @aBin_eqlS))) (aj (aj @aBin_neqS @aeval_tmp) (aj @aeval_const (aj @aeval_func @ofV_int))))) (aj (aj (aj (aj @ofV_bool @ofV_string) (aj @ofV_slice @eget_cons)) (aj (aj @eget_nil @eput_cons) (aj @eput_nil (aj @pr_eq @aft_some)))) (aj (aj (aj @ends_e @ends_r) (aj @ends_g (aj @blkAt_eq @acallH_value))) (aj (aj @aop_makeFunc @aops_nil) (aj @zs_nil (aj @zs_one @zs_oneg)))))) (aj (aj (aj (aj (aj @zs_go @zs_gog) (aj @zs_var @nextZ_some)) (aj (aj @inZ_none @inZ_nil) (aj @inZ_cons (aj @inA_nil @inA_cons)))) (aj (aj (aj @app1_new @putA_some) (aj @putZ_some (aj @putZ_none @frz1_new))) (aj (aj @frz1_val @aop_bs1) (aj @aop_append (aj @aop_sliceS @amap_nil))))) (aj (aj (aj (aj @amap_cons @rb_mkL) (aj @rb_int @rb_str)) (aj (aj @rb_bool @rb_nil) (aj @rb_z (aj @rb_agg @rb_tup)))) (aj (aj (aj @rb_ro @rb_fn) (aj @pv_sc (aj @pv_mkL @pv_lst))) (aj (aj @pv_ro @pv_z) (aj @pv_agg (aj @pv_fn @one_mkL)))))))) (aj (aj (aj (aj (aj (aj (aj @solid_mkL @acells_mkL) (aj @lst0 @isAl_move)) (aj (aj @isAl_assign @isAl_pick) (aj @isAl_box (aj @isAl_build @isAl_buildSlice)))) (aj (aj (aj @isAl_insert @isAl_load) (aj @isAl_store @isAl_nilCheck)) (aj (aj @isAl_binOp @isAl_unOp) (aj @isAl_convert (aj @isAl_makeInterface @isAl_makeFunc))))) (aj (aj (aj (aj @isAl_makeMap @isAl_makeSlice) (aj @isAl_slice @isAl_fieldAddr)) (aj (aj @isAl_field @isAl_indexAddr) (aj @isAl_index (aj @isAl_lookup @isAl_mapUpdate)))) (aj (aj (aj @isAl_mapEntry @isAl_entryStore) (aj @isAl_extract (aj @isAl_call @isAl_typeAssert))) (aj (aj @isAl_range @isAl_next) (aj @isAl_entry (aj @isAl_panic @isTmp_tmp)))))) (aj (aj (aj (aj (aj @isTmp_const @isTmp_func) (aj @freeze_ptr @freeze_own)) (aj (aj @freeze_z @zg_eq) (aj @stOp_store (aj @isVarB_store @isAl_alloc)))) (aj (aj (aj @isVB_move @isVB_assign) (aj @isVB_pick (aj @isVB_box @isVB_build))) (aj (aj @isVB_buildSlice @isVB_insert) (aj @isVB_load (aj @isVB_nilCheck @isVB_binOp))))) (aj (aj (aj (aj @isVB_unOp @isVB_convert) (aj @isVB_makeInterface @isVB_makeFunc)) (aj (aj @isVB_makeMap @isVB_makeSlice) (aj @isVB_slice (aj @isVB_fieldAddr @isVB_field)))) (aj (aj (aj @isVB_indexAddr @isVB_index) (aj @isVB_lookup (aj @isVB_mapUpdate @isVB_mapEntry))) (aj (aj @isVB_entryStore @isVB_extract) (aj @isVB_call (aj @isVB_typeAssert @isVB_range))))))) (aj (aj (aj (aj (aj (aj @isVB_next @isVB_entry) (aj @isVB_panic @isVB_alloc)) (aj (aj @acode_drawx @aop_alloc) (aj @afill_nil (aj @afill_cons @aop_nilCheck)))) (aj (aj (aj @aNilC_ptr @aNilC_ro) (aj @aop_convert2 (aj @aConv2_ptr @ofV_pointer))) (aj (aj @ofV_map @ofV_nilFunc) (aj @ofV_nilIface (aj @one_sc @solid_sc))))) (aj (aj (aj (aj @acells_sc @one_lst) (aj @solid_lst @acells_lst)) (aj (aj @one_ro @solid_ro) (aj @acells_ro (aj @one_own @solid_own)))) (aj (aj (aj @acells_own @one_ptr) (aj @solid_ptr (aj @acells_ptr @one_fn))) (aj (aj @solid_fn @acells_fn) (aj @one_ifc (aj @solid_ifc @acells_ifc)))))) (aj (aj (aj (aj (aj @one_z @solid_z) (aj @acells_z @one_mp)) (aj (aj @solid_mp @acells_mp) (aj @solid_agg (aj @acells_agg @emp)))) (aj (aj (aj @altZ_some @altZ_none) (aj @aop_slice00 (aj @aop_slice10 @aop_slice01))) (aj (aj @bnd_no @bnd_nat) (aj @slG_lst (aj @slG_own @slG_ptr))))) (aj (aj (aj (aj @aop_min @aop_max) (aj @aMin_int @aMax_int)) (aj (aj @aBin_mulI @allocY_nil) (aj @allocY_cons (aj @mid1_some @midB_assign)))) (aj (aj (aj @midU_assign @midX_assign) (aj @aBin_eqlB (aj @aBin_neqB @aop_clear))) (aj (aj @aop_makeSlice @acode_scope) (aj @inScope_n (aj @inScope_r @inScope_e)))))))))
def RC := (aj (aj (aj (aj (aj (aj @if_true.{1} @if_false.{1}) (aj @List.toList_toArray.{0} @Option.map_some.{0,0})) (aj (aj @Option.bind_some.{0,0} @List.getElem?_toArray.{0}) (aj @List.getElem?_cons_zero.{0} (aj @List.getElem?_cons_succ.{0} @List.size_toArray.{0})))) (aj (aj (aj @Bool.not_true @Bool.not_false) (aj @decide_true @decide_false)) (aj (aj @BEq.rfl.{0} @Bool.true_eq_false) (aj @Bool.false_eq_true (aj @beq_self_eq_true.{0} @List.map_cons.{0,0}))))) (aj (aj (aj (aj @List.map_nil.{0,0} @eq_self.{1}) (aj @decide_eq_true_eq @Nat.lt_irrefl)) (aj (aj @Int.lt_irrefl @Int.ofNat_lt) (aj @bne_self_eq_false.{0} (aj @Bool.beq_eq_decide_eq.{0} @Bool.and_true)))) (aj (aj (aj @Bool.true_and @Bool.and_false) (aj @Bool.false_and (aj @Bool.or_true @Bool.true_or))) (aj (aj @Bool.or_false @Bool.false_or) (aj @List.all_cons.{0} (aj @List.all_nil.{0} @List.length_cons.{0})))))) (aj (aj (aj (aj (aj @List.length_nil.{0} @List.drop_zero.{0}) (aj @List.drop_succ_cons.{0} @List.take_succ_cons.{0})) (aj (aj @List.take_zero.{0} @Nat.zero_add) (aj @Nat.add_zero (aj @List.nil_append.{0} @List.cons_append.{0})))) (aj (aj (aj @Int.natCast_nonneg @Int.toNat_natCast) (aj @Nat.zero_le (aj @Nat.le_refl @Bool.and_self))) (aj (aj @Bool.or_self @List.set_cons_zero.{0}) (aj @List.set_cons_succ.{0} (aj @Option.map_none.{0,0} @List.getElem?_nil.{0}))))) (aj (aj (aj (aj @gt_iff_lt.{0} @ge_iff_le.{0}) (aj @Nat.lt_add_one @Nat.zero_lt_succ)) (aj (aj @beq_iff_eq.{0} @Nat.mul_zero) (aj @Nat.zero_mul (aj @Nat.mul_one @List.append_nil.{0})))) (aj (aj (aj @not_true_eq_false @not_false_eq_true) (aj @ne_eq.{1} (aj @Bool.not_eq_true @Bool.decide_and))) (aj (aj @Bool.decide_eq_true @List.length_map.{0,0}) (aj @List.getElem?_map.{0,0} (aj @Bool.not_eq_false @Nat.beq_eq)))))))
def R1 := (aj (aj (aj (aj (aj (aj @trace_nil @trace_cons) (aj @nextT_some @whenP_t)) (aj (aj @whenP_f @bitB_call) (aj @bitB_builtin (aj @bitOf_upd @bitOf_new)))) (aj (aj (aj @bitOf_val @awanted_no) (aj @bitB_move (aj @touch_move @bitB_assign))) (aj (aj @touch_assign @bitB_pick) (aj @touch_pick (aj @bitB_box @touch_box))))) (aj (aj (aj (aj @bitB_alloc @touch_alloc) (aj @bitB_build @touch_build)) (aj (aj @bitB_buildSlice @touch_buildSlice) (aj @bitB_load (aj @touch_load @bitB_store)))) (aj (aj (aj @touch_store @bitB_nilCheck) (aj @touch_nilCheck (aj @bitB_binOp @touch_binOp))) (aj (aj @bitB_unOp @touch_unOp) (aj @bitB_makeFunc (aj @touch_makeFunc @bitB_slice)))))) (aj (aj (aj (aj (aj @touch_slice @bitB_fieldAddr) (aj @touch_fieldAddr @bitB_field)) (aj (aj @touch_field @bitB_indexAddr) (aj @touch_indexAddr (aj @bitB_index @touch_index)))) (aj (aj (aj @bitB_extract @touch_extract) (aj @touch_append (aj @byVal_lst @byVal_ro))) (aj (aj @byVal_sc @byVal_ptr) (aj @byVal_own (aj @byVal_agg @byVal_fn))))) (aj (aj (aj (aj @byVal_z @byVal_mkL) (aj @dynD_eq @chk_some)) (aj (aj @dynK_none @dynK_some) (aj @runR_some (aj @chkR_some @preR_nil)))) (aj (aj (aj @preR_cons @preO_alloc) (aj @preN_some (aj @rsvOf_nil @rsvOf_cons))) (aj (aj @nextTR_some @traceR_nil) (aj @stepR_some (aj @stepR_none @traceR_cons)))))))
end Go.Proofs.YtpgipdajinkdgaaGreatA
