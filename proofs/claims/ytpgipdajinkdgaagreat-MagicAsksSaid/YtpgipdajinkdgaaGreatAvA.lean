/- A part of the proof of MagicAsks: functions of the program, run by the evaluator. -/

/- The abstract evaluator: values, and what it is for a value in memory to be one of these. -/
import Derived.Orders
import Derived.Below
import Derived.Maps.AppendAt
import Derived.KernelRfl
namespace Go.Proofs.YtpgipdajinkdgaaGreatA
open Go Go.RowKit
set_option linter.all false
set_option linter.unusedSectionVars false
set_option linter.constructorNameAsVariable false
inductive AV where
  | bad
  | sc (v : Value)
  | agg (cs : List AV)
  | tup (vs : List AV)
  | lst (sz : Nat) (rows : List (List AV))
  | ro (cs : List AV)
  | own (b o len sz ver : Nat)
  | ptr (b off ver : Nat)
  | fn (f : FuncId) (caps : List AV)
  | ifc (t : TypeId) (v : AV)
  | z
  | mp (b ver : Nat)
  deriving Inhabited
abbrev BM := Nat → Option (Nat × Nat × Option Nat)
def BM.none : BM := fun _ => Option.none
def Own (B : BM) (i : Nat) : Prop := ∃ b v c, B b = some (i, v, c)
def Forb (F : Nat → Prop) (B : BM) (i : Nat) : Prop := F i ∨ Own B i
def Mem (w : World) (Fb : Nat → Prop) (A : Option Addr) (ys : List Value) : Prop :=
  (∀ y ∈ ys, y.oneCell' = true) ∧ (ys = [] ∨ ∃ a, A = some a ∧ ¬ Fb a.block ∧ ∀ j y, ys[j]? = some y → w.cell? (a.add j) = some y)
mutual
def VR (w : World) (Fb : Nat → Prop) : BM → AV → Value → Prop
  | _, .bad, _ => True
  | _, .sc u, v => v = u
  | B, .agg cs, v => ∃ c : Array Value, v = .agg c ∧ VRL w Fb B cs c.toList
  | B, .tup cs, v => ∃ c : Array Value, v = .tuple c ∧ VRL w Fb B cs c.toList
  | _, .lst sz rows, v => ∃ A cap ys, v = .slice A rows.length cap ∧ rows.length ≤ cap ∧ (∀ r ∈ rows, r.length = sz) ∧ VRR w Fb rows ys ∧ Mem w Fb A ys
  | _, .ro cs, v => ∃ a ys, v = .pointer (some a) ∧ VRL w Fb BM.none cs ys ∧ Mem w Fb (some a) ys
  | B, .own b o len sz ver, v => ∃ A cap g v' c, v = .slice A len cap ∧ B b = some (g, v', c) ∧ ver ≤ v' ∧
      (v' = ver → A = some ⟨g, o * sz, none⟩ ∧ len ≤ cap ∧ ∀ n, c = some n → cap + o = n)
  | B, .ptr b off ver, v => ∃ a g v' c, v = .pointer (some a) ∧ B b = some (g, v', c) ∧ ver ≤ v' ∧ (v' = ver → a = ⟨g, off, none⟩)
  | B, .fn f caps, v => ∃ c : Array Value, v = .func (.func f) #[] c ∧ VRL w Fb B caps c.toList
  | B, .ifc t x, v => ∃ y, v = .iface t y ∧ VR w Fb B x y
  | _, .z, v => ∃ A, v = .slice A 0 0
  | B, .mp b ver, v => ∃ r g v' c, v = .map (some r) ∧ B b = some (g, v', c) ∧ ver ≤ v' ∧ (v' = ver → r = g)
def VRL (w : World) (Fb : Nat → Prop) : BM → List AV → List Value → Prop
  | _, [], ys => ys = []
  | B, x :: xs, ys => ∃ y r, ys = y :: r ∧ VR w Fb B x y ∧ VRL w Fb B xs r
def VRR (w : World) (Fb : Nat → Prop) : List (List AV) → List Value → Prop
  | [], ys => ys = []
  | r :: rs, ys => ∃ y1 y2, ys = y1 ++ y2 ∧ VRL w Fb BM.none r y1 ∧ VRR w Fb rs y2
end
def BLe (B B' : BM) : Prop := ∀ b g v c, B b = some (g, v, c) → ∃ g' v' c', B' b = some (g', v', c') ∧ v ≤ v' ∧ (v' = v → g' = g ∧ c' = c)
theorem BLe.refl (B : BM) : BLe B B := fun _ g v c h => ⟨g, v, c, h, Nat.le_refl _, fun _ => ⟨rfl, rfl⟩⟩
theorem BLe.trans {A B C : BM} (h : BLe A B) (k : BLe B C) : BLe A C := fun b g v c e => by
  obtain ⟨g1, v1, c1, e1, l1, s1⟩ := h b g v c e
  obtain ⟨g2, v2, c2, e2, l2, s2⟩ := k b g1 v1 c1 e1
  refine ⟨g2, v2, c2, e2, Nat.le_trans l1 l2, fun e => ?_⟩
  have h1 : v1 = v := by omega
  obtain ⟨rfl, rfl⟩ := s1 h1
  exact s2 (by omega)
theorem BLe.none (B : BM) : BLe BM.none B := fun _ _ _ _ h => by cases h
theorem Mem.mono {w w' : World} {Fb Fb' : Nat → Prop} (hm : ∀ a y, ¬ Fb a.block → w.cell? a = some y → w'.cell? a = some y ∧ ¬ Fb' a.block) {A : Option Addr} {ys : List Value} (h : Mem w Fb A ys) : Mem w' Fb' A ys := by
  refine ⟨h.1, ?_⟩
  rcases h.2 with h2 | ⟨a, ha, hf, hc⟩
  · exact .inl h2
  · cases ys with
    | nil => exact .inl rfl
    | cons y r =>
      have hb : ∀ j, (a.add j).block = a.block := fun j => by unfold Addr.add; split <;> rfl
      have h0 := hm (a.add 0) y (by rw [hb]; exact hf) (hc 0 y rfl)
      refine .inr ⟨a, ha, ?_, fun j u hu => (hm _ u (by rw [hb]; exact hf) (hc j u hu)).1⟩
      have := h0.2
      rwa [hb] at this
section mono
variable {w w' : World} {Fb Fb' : Nat → Prop} (hm : ∀ a y, ¬ Fb a.block → w.cell? a = some y → w'.cell? a = some y ∧ ¬ Fb' a.block)
include hm
mutual
theorem VR.mono : ∀ (x : AV) (B B' : BM) (_ : BLe B B') (v : Value), VR w Fb B x v → VR w' Fb' B' x v
  | .bad, _, _, _, _, _ => by simp only [VR]
  | .sc u, _, _, _, _, h => by simp only [VR] at h ⊢; exact h
  | .agg cs, B, B', hB, v, h => by
    simp only [VR] at h ⊢
    obtain ⟨c, e, h⟩ := h
    exact ⟨c, e, VRL.mono cs B B' hB _ h⟩
  | .tup cs, B, B', hB, v, h => by
    simp only [VR] at h ⊢
    obtain ⟨c, e, h⟩ := h
    exact ⟨c, e, VRL.mono cs B B' hB _ h⟩
  | .lst sz rows, B, B', hB, v, h => by
    simp only [VR] at h ⊢
    obtain ⟨A, cap, ys, e, hl, hr, hv, hM⟩ := h
    exact ⟨A, cap, ys, e, hl, hr, VRR.mono rows _ hv, hM.mono hm⟩
  | .ro cs, B, B', hB, v, h => by
    simp only [VR] at h ⊢
    obtain ⟨a, ys, e, hv, hM⟩ := h
    exact ⟨a, ys, e, VRL.mono cs _ _ (BLe.refl _) _ hv, hM.mono hm⟩
  | .own b o len sz ver, B, B', hB, v, h => by
    simp only [VR] at h ⊢
    obtain ⟨A, cap, g, v', c, e, hb, hle, hx⟩ := h
    obtain ⟨g1, v1, c1, e1, l1, s1⟩ := hB b g v' c hb
    refine ⟨A, cap, g1, v1, c1, e, e1, by omega, fun he => ?_⟩
    obtain ⟨rfl, rfl⟩ := s1 (by omega)
    exact hx (by omega)
  | .ptr b off ver, B, B', hB, v, h => by
    simp only [VR] at h ⊢
    obtain ⟨a, g, v', c, e, hb, hle, hx⟩ := h
    obtain ⟨g1, v1, c1, e1, l1, s1⟩ := hB b g v' c hb
    refine ⟨a, g1, v1, c1, e, e1, by omega, fun he => ?_⟩
    obtain ⟨rfl, rfl⟩ := s1 (by omega)
    exact hx (by omega)
  | .fn f caps, B, B', hB, v, h => by
    simp only [VR] at h ⊢
    obtain ⟨c, e, h⟩ := h
    exact ⟨c, e, VRL.mono caps B B' hB _ h⟩
  | .ifc t x, B, B', hB, v, h => by
    simp only [VR] at h ⊢
    obtain ⟨y, e, h⟩ := h
    exact ⟨y, e, VR.mono x B B' hB _ h⟩
  | .z, _, _, _, _, h => by simp only [VR] at h ⊢; exact h
  | .mp b ver, B, B', hB, v, h => by
    simp only [VR] at h ⊢
    obtain ⟨r, g, v', c, e, hb, hle, hx⟩ := h
    obtain ⟨g1, v1, c1, e1, l1, s1⟩ := hB b g v' c hb
    refine ⟨r, g1, v1, c1, e, e1, by omega, fun he => ?_⟩
    obtain ⟨rfl, rfl⟩ := s1 (by omega)
    exact hx (by omega)
theorem VRL.mono : ∀ (xs : List AV) (B B' : BM) (_ : BLe B B') (ys : List Value), VRL w Fb B xs ys → VRL w' Fb' B' xs ys
  | [], _, _, _, _, h => by simp only [VRL] at h ⊢; exact h
  | x :: xs, B, B', hB, ys, h => by
    simp only [VRL] at h ⊢
    obtain ⟨y, r, e, h1, h2⟩ := h
    exact ⟨y, r, e, VR.mono x B B' hB _ h1, VRL.mono xs B B' hB _ h2⟩
theorem VRR.mono : ∀ (rows : List (List AV)) (ys : List Value), VRR w Fb rows ys → VRR w' Fb' rows ys
  | [], _, h => by simp only [VRR] at h ⊢; exact h
  | r :: rs, ys, h => by
    simp only [VRR] at h ⊢
    obtain ⟨y1, y2, e, h1, h2⟩ := h
    exact ⟨y1, y2, e, VRL.mono r _ _ (BLe.refl _) _ h1, VRR.mono rs _ h2⟩
end
end mono
theorem VRL.length {w : World} {Fb : Nat → Prop} {B : BM} : ∀ {xs : List AV} {ys : List Value}, VRL w Fb B xs ys → ys.length = xs.length
  | [], _, h => by simp only [VRL] at h; rw [h]; rfl
  | x :: xs, _, h => by
    simp only [VRL] at h
    obtain ⟨y, r, rfl, _, h2⟩ := h
    simp [VRL.length h2]
theorem VRL.get {w : World} {Fb : Nat → Prop} {B : BM} : ∀ {xs : List AV} {ys : List Value}, VRL w Fb B xs ys → ∀ {i : Nat} {x : AV}, xs[i]? = some x → ∃ y, ys[i]? = some y ∧ VR w Fb B x y
  | [], _, _, i, x, hx => by simp at hx
  | x :: xs, _, h, i, u, hx => by
    simp only [VRL] at h
    obtain ⟨y, r, rfl, h1, h2⟩ := h
    cases i with
    | zero => simp only [List.getElem?_cons_zero, Option.some.injEq] at hx; subst hx; exact ⟨y, rfl, h1⟩
    | succ i => simp only [List.getElem?_cons_succ] at hx; exact VRL.get h2 hx
theorem VRL.append {w : World} {Fb : Nat → Prop} {B : BM} : ∀ {xs : List AV} {ys : List Value} {us : List AV} {vs : List Value}, VRL w Fb B xs ys → VRL w Fb B us vs → VRL w Fb B (xs ++ us) (ys ++ vs)
  | [], _, us, vs, h, k => by simp only [VRL] at h; subst h; exact k
  | x :: xs, _, us, vs, h, k => by
    simp only [VRL] at h
    obtain ⟨y, r, rfl, h1, h2⟩ := h
    simp only [List.cons_append, VRL]
    exact ⟨y, _, rfl, h1, VRL.append h2 k⟩
theorem VRL.drop {w : World} {Fb : Nat → Prop} {B : BM} : ∀ {xs : List AV} {ys : List Value} (n : Nat), VRL w Fb B xs ys → VRL w Fb B (xs.drop n) (ys.drop n)
  | [], _, n, h => by simp only [VRL] at h; subst h; simp [VRL]
  | x :: xs, _, 0, h => by simpa using h
  | x :: xs, _, n + 1, h => by
    simp only [VRL] at h
    obtain ⟨y, r, rfl, h1, h2⟩ := h
    simpa using VRL.drop n h2
theorem VRL.take {w : World} {Fb : Nat → Prop} {B : BM} : ∀ {xs : List AV} {ys : List Value} (n : Nat), VRL w Fb B xs ys → VRL w Fb B (xs.take n) (ys.take n)
  | [], _, n, h => by simp only [VRL] at h; subst h; simp [VRL]
  | x :: xs, _, 0, h => by simp [VRL]
  | x :: xs, _, n + 1, h => by
    simp only [VRL] at h
    obtain ⟨y, r, rfl, h1, h2⟩ := h
    simp only [List.take_succ_cons, VRL]
    exact ⟨y, _, rfl, h1, VRL.take n h2⟩
theorem VRL.set {w : World} {Fb : Nat → Prop} {B : BM} : ∀ {xs : List AV} {ys : List Value} (i : Nat) {x : AV} {y : Value}, VRL w Fb B xs ys → VR w Fb B x y → VRL w Fb B (xs.set i x) (ys.set i y)
  | [], _, i, _, _, h, _ => by simp only [VRL] at h; subst h; simp [VRL]
  | x :: xs, _, 0, u, v, h, k => by
    simp only [VRL] at h
    obtain ⟨y, r, rfl, h1, h2⟩ := h
    simp only [List.set_cons_zero, VRL]
    exact ⟨v, _, rfl, k, h2⟩
  | x :: xs, _, i + 1, u, v, h, k => by
    simp only [VRL] at h
    obtain ⟨y, r, rfl, h1, h2⟩ := h
    simp only [List.set_cons_succ, VRL]
    exact ⟨y, _, rfl, h1, VRL.set i h2 k⟩
theorem VRL.sc {w : World} {Fb : Nat → Prop} {B : BM} : ∀ (ys : List Value), VRL w Fb B (ys.map .sc) ys
  | [] => by simp [VRL]
  | y :: ys => by simp only [List.map_cons, VRL]; exact ⟨y, ys, rfl, by simp [VR], VRL.sc ys⟩
theorem VRR.flat {w : World} {Fb : Nat → Prop} : ∀ {rows : List (List AV)} {ys : List Value}, VRR w Fb rows ys ↔ VRL w Fb BM.none rows.flatten ys
  | [], ys => by simp [VRR, VRL]
  | r :: rs, ys => by
    simp only [VRR, List.flatten_cons]
    constructor
    · rintro ⟨y1, y2, rfl, h1, h2⟩
      exact VRL.append h1 (VRR.flat.1 h2)
    · intro h
      refine ⟨ys.take r.length, ys.drop r.length, (List.take_append_drop _ _).symm, ?_, VRR.flat.2 ?_⟩
      · have := VRL.take r.length h; rwa [List.take_left'] at this; rfl
      · have := VRL.drop r.length h; rwa [List.drop_left'] at this; rfl
def ofV : Value → AV
  | .agg c => .agg (c.toList.map .sc)
  | .tuple c => .tup (c.toList.map .sc)
  | v => .sc v
theorem VR.ofV {w : World} {Fb : Nat → Prop} {B : BM} (v : Value) : VR w Fb B (ofV v) v := by
  unfold YtpgipdajinkdgaaGreatA.ofV
  split
  · simp only [VR]; exact ⟨_, rfl, VRL.sc _⟩
  · simp only [VR]; exact ⟨_, rfl, VRL.sc _⟩
  · simp only [VR]
def toVs : List AV → Option (List Value)
  | [] => some []
  | .sc v :: r => (toVs r).map (v :: ·)
  | _ => none
def toV : AV → Option Value
  | .sc v => some v
  | .agg cs => (toVs cs).map fun l => .agg l.toArray
  | .tup cs => (toVs cs).map fun l => .tuple l.toArray
  | .fn f [] => some (.func (.func f) #[] #[])
  | _ => none
theorem toVs_sound {w : World} {Fb : Nat → Prop} {B : BM} : ∀ {xs : List AV} {ys us : List Value}, VRL w Fb B xs ys → toVs xs = some us → ys = us
  | [], ys, us, h, k => by simp only [VRL] at h; simp only [toVs, Option.some.injEq] at k; rw [h, k]
  | x :: xs, ys, us, h, k => by
    simp only [VRL] at h
    obtain ⟨y, r, rfl, h1, h2⟩ := h
    cases x <;> simp only [toVs] at k
    case sc v =>
      obtain ⟨l, hl, rfl⟩ := Option.map_eq_some_iff.1 k
      simp only [VR] at h1
      rw [h1, toVs_sound h2 hl]
    all_goals cases k
theorem toV_sound {w : World} {Fb : Nat → Prop} {B : BM} {x : AV} {v u : Value} (h : VR w Fb B x v) (k : toV x = some u) : v = u := by
  cases x with
  | sc v => simp only [toV, Option.some.injEq] at k; simp only [VR] at h; rw [h, k]
  | agg cs =>
    simp only [toV] at k
    obtain ⟨l, hl, rfl⟩ := Option.map_eq_some_iff.1 k
    simp only [VR] at h
    obtain ⟨c, rfl, h⟩ := h
    rw [← toVs_sound h hl]
  | tup cs =>
    simp only [toV] at k
    obtain ⟨l, hl, rfl⟩ := Option.map_eq_some_iff.1 k
    simp only [VR] at h
    obtain ⟨c, rfl, h⟩ := h
    rw [← toVs_sound h hl]
  | fn f caps =>
    cases caps with
    | nil =>
      simp only [toV, Option.some.injEq] at k
      simp only [VR, VRL] at h
      obtain ⟨c, rfl, h⟩ := h
      rw [← k, Array.toList_eq_nil_iff.1 h]
    | cons a b => cases k
  | _ => cases k
def pureRun (P : Program) {α : Type} : Sem α → Option α
  | .pure a => some a
  | .program k => pureRun P (k P)
  | _ => none
theorem pureRun_sound {P : Program} {α : Type} : ∀ {s : Sem α} {a : α}, pureRun P s = some a → ∀ w, s.run P w = .ok a w
  | .pure b, a, h, w => by simp only [pureRun, Option.some.injEq] at h; rw [h]; rfl
  | .program k, a, h, w => by simp only [pureRun] at h; exact pureRun_sound (s := k P) h w
inductive Kd where
  | cells
  | map (kvs : List (Value × AV))
  | dead
  | app
  | ali
  deriving Inhabited
structure Blk where
  elem : TypeId
  sz : Nat
  ver : Nat
  grow : Bool
  cells : List AV
  kind : Kd
  deriving Inhabited
def BRelC (w : World) (Fb : Nat → Prop) (B : BM) (blk : Blk) (g : Nat) (c : Option Nat) : Prop :=
  ∃ cur ys rest, w.heap[g]? = some (.cells cur blk.elem (0, 0)) ∧ cur.toList = ys ++ rest ∧ VRL w Fb B blk.cells ys ∧ (∀ y ∈ ys, y.oneCell' = true) ∧
    (blk.grow = true → ∃ n, c = some n ∧ cur.size = n * blk.sz ∧ n ≤ maxLen) ∧ (blk.grow = false → c = none ∧ rest = [])
def BRelM (w : World) (Fb : Nat → Prop) (B : BM) (kvs : List (Value × AV)) (g : Nat) : Prop :=
  ∃ es : Array MapEntry, w.heap[g]? = some (.map es kvs.length) ∧ es.size = kvs.length ∧ ∀ (i : Nat) (e : MapEntry), es[i]? = some e → e.born = i ∧ ∃ k x, kvs[i]? = some (k, x) ∧ e.key = k ∧ VR w Fb B x e.val
def BRelA (w : World) (Fb : Nat → Prop) (B : BM) (blk : Blk) (g : Nat) : Prop :=
  ∃ cur ys rest, w.heap[g]? = some (.cells cur blk.elem (0, 0)) ∧ cur.toList = ys ++ rest ∧ VRL w Fb B blk.cells ys ∧ (∀ y ∈ ys, y.oneCell' = true)
theorem BRelC.ali {w : World} {Fb : Nat → Prop} {B : BM} {blk : Blk} {g : Nat} {c : Option Nat} (h : BRelC w Fb B blk g c) : BRelA w Fb B blk g := by
  obtain ⟨cur, ys, rest, h1, h2, h3, h4, _⟩ := h
  exact ⟨cur, ys, rest, h1, h2, h3, h4⟩
def BRel (w : World) (Fb : Nat → Prop) (B : BM) (blk : Blk) (g : Nat) (c : Option Nat) : Prop :=
  match blk.kind with
  | .cells => BRelC w Fb B blk g c
  | .map kvs => BRelM w Fb B kvs g
  | .dead => g < w.heap.size
  | .app => BRelC w Fb B blk g c
  | .ali => BRelA w Fb B blk g
theorem lt_of_at {w : World} {g : Nat} {o : Obj} (h : w.heap[g]? = some o) : g < w.heap.size := by
  rcases Nat.lt_or_ge g w.heap.size with h' | h'
  · exact h'
  · rw [Array.getElem?_eq_none h'] at h; cases h
theorem BRel.lt {w : World} {Fb : Nat → Prop} {B : BM} {blk : Blk} {g : Nat} {c : Option Nat} (h : BRel w Fb B blk g c) : g < w.heap.size := by
  unfold BRel at h
  split at h
  · obtain ⟨_, _, _, h, _⟩ := h; exact lt_of_at h
  · obtain ⟨_, h, _⟩ := h; exact lt_of_at h
  · exact h
  · obtain ⟨_, _, _, h, _⟩ := h; exact lt_of_at h
  · obtain ⟨_, _, _, h, _⟩ := h; exact lt_of_at h
theorem BRel.keep {w w' : World} {Fb Fb' : Nat → Prop} {B B' : BM} {blk : Blk} {g : Nat} {c : Option Nat} (h : BRel w Fb B blk g c) (hg : w'.heap[g]? = w.heap[g]?)
    (hm : ∀ x v, VR w Fb B x v → VR w' Fb' B' x v) (hml : ∀ x v, VRL w Fb B x v → VRL w' Fb' B' x v) : BRel w' Fb' B' blk g c := by
  have hlt := h.lt
  unfold BRel at h ⊢
  split at h
  · rename_i hk
    obtain ⟨cur, ys, rest, p1, p2, p3, p4⟩ := h
    exact ⟨cur, ys, rest, by rw [hg]; exact p1, p2, hml _ _ p3, p4⟩
  · rename_i kvs hk
    obtain ⟨es, p1, p2, p3⟩ := h
    refine ⟨es, by rw [hg]; exact p1, p2, fun i e he => ?_⟩
    obtain ⟨h1, k, x, h2, h3, h4⟩ := p3 i e he
    exact ⟨h1, k, x, h2, h3, hm _ _ h4⟩
  · have : w.heap[g]? = some w.heap[g] := Array.getElem?_eq_getElem hlt
    exact lt_of_at (by rw [hg]; exact this)
  · obtain ⟨cur, ys, rest, p1, p2, p3, p4⟩ := h
    exact ⟨cur, ys, rest, by rw [hg]; exact p1, p2, hml _ _ p3, p4⟩
  · obtain ⟨cur, ys, rest, p1, p2, p3, p4⟩ := h
    exact ⟨cur, ys, rest, by rw [hg]; exact p1, p2, hml _ _ p3, p4⟩
def Shared (H : List Blk) (b b' : Nat) : Prop :=
  ∃ x y, H[b]? = some x ∧ H[b']? = some y ∧ ((x.kind = .ali ∧ y.kind = .ali) ∨ (x.kind = .app ∧ y.kind = .ali ∧ y.cells.length ≤ x.cells.length) ∨ (x.kind = .ali ∧ y.kind = .app ∧ x.cells.length ≤ y.cells.length))
theorem Shared.mono {H H' : List Blk} {b b' : Nat} (h : Shared H b b') (h1 : H'[b]? = H[b]?) (h2 : H'[b']? = H[b']?) : Shared H' b b' := by
  obtain ⟨x, y, e1, e2, h⟩ := h
  exact ⟨x, y, by rw [h1]; exact e1, by rw [h2]; exact e2, h⟩
theorem Shared.kind {H : List Blk} {b b' : Nat} {x : Blk} (h : Shared H b b') (hx : H[b]? = some x) : x.kind = .app ∨ x.kind = .ali := by
  obtain ⟨x', y, e1, e2, h⟩ := h
  rw [hx] at e1
  cases e1
  rcases h with h | h | h
  · exact .inr h.1
  · exact .inl h.1
  · exact .inr h.1
theorem Shared.symm {H : List Blk} {b b' : Nat} (h : Shared H b b') : Shared H b' b := by
  obtain ⟨x, y, e1, e2, h⟩ := h
  refine ⟨y, x, e2, e1, ?_⟩
  rcases h with h | h | h
  · exact .inl ⟨h.2, h.1⟩
  · exact .inr (.inr ⟨h.2.1, h.1, h.2.2⟩)
  · exact .inr (.inl ⟨h.2.1, h.1, h.2.2⟩)
structure HR (w : World) (F : Nat → Prop) (B : BM) (H : List Blk) : Prop where
  at_ : ∀ b g v c, B b = some (g, v, c) → ∃ blk, H[b]? = some blk ∧ v = blk.ver ∧ BRel w (Forb F B) B blk g c
  inj : ∀ b b' g v v' c c', B b = some (g, v, c) → B b' = some (g, v', c') → b = b' ∨ Shared H b b'
  nf : ∀ b g v c, B b = some (g, v, c) → ¬ F g
  lt : ∀ i, F i → i < w.heap.size
def Full (B : BM) (H : List Blk) : Prop := ∀ b, b < H.length → ∃ e, B b = some e
theorem ask_drawn {α : Type} : ∀ (x : Ask α) (w : World), w.drawn ≤ (w.ask x).2.drawn
  | .done _, w => Nat.le_refl _
  | .ask what range k, w => by
    simp only [World.ask]
    split
    · exact ask_drawn (k 0) w
    · exact Nat.le_trans (Nat.le_succ w.drawn) (ask_drawn (k _) { w with drawn := w.drawn + 1 })
theorem sys_drawn (w : World) (c : Sys) : w.drawn ≤ (w.sys c).2.drawn := by
  unfold World.sys
  have h := ask_drawn (Kernel.perform c w.os) w
  split
  · exact Nat.le_refl _
  · rename_i e
    rw [e] at h
    exact h
theorem view_drawn {P : Program} {w w' : World} {at_ : Addr} {u : TypeId} {k : Addr} {v : Value} {b : Bool} {l : List Addr} (h : w.viewStore P at_ u k v b = .ok (w', l)) : w'.drawn = w.drawn := by
  unfold World.viewStore at h
  simp only [bind, Except.bind, pure, Except.pure] at h
  repeat' (split at h)
  all_goals first | (cases h; done) | (cases h; rfl)
theorem far_drawn {P : Program} {w w' : World} {a : Addr} {v : Value} {b : Bool} {l : List Addr} (h : w.farStore P a v b = .ok (w', l)) : w'.drawn = w.drawn := by
  unfold World.farStore at h
  split at h
  · split at h
    · rename_i e; cases h; exact view_drawn e
    · cases h
  · cases h
theorem run_drawn {P : Program} {α : Type} : ∀ (s : Sem α) {w w' : World} {a : α}, s.run P w = .ok a w' → w.drawn ≤ w'.drawn
  | .pure a, w, w', _, h => by simp only [Sem.run, Result.ok.injEq] at h; rw [h.2]; exact Nat.le_refl _
  | .load m a k, w, w', _, h => by
    simp only [Sem.run] at h
    split at h
    · exact run_drawn _ h
    · split at h
      · exact run_drawn _ h
      · cases h
  | .store m a v k, w, w', _, h => by
    by_cases hv : (∃ c, v = .agg c) ∨ (∃ c, v = .tuple c)
    · rcases hv with ⟨c, rfl⟩ | ⟨c, rfl⟩ <;> (simp only [Sem.run] at h; cases h)
    · rw [Sem.run] at h
      · split at h
        · split at h
          · cases h
          · have := run_drawn k h; exact this
        · split at h
          · rename_i e
            have := run_drawn k h
            rwa [far_drawn e] at this
          · cases h
      · exact fun c e => hv (.inl ⟨c, e⟩)
      · exact fun c e => hv (.inr ⟨c, e⟩)
  | .new o k, w, w', _, h => by simp only [Sem.run] at h; have := run_drawn _ h; exact this
  | .shape r k, w, w', _, h => by simp only [Sem.run] at h; exact run_drawn _ h
  | .freeze a n k, w, w', _, h => by
    simp only [Sem.run] at h
    have := run_drawn _ h
    have e : (w.freeze a n).drawn = w.drawn := by unfold World.freeze; split <;> rfl
    rwa [e] at this
  | .frozen a k, w, w', _, h => by simp only [Sem.run] at h; exact run_drawn _ h
  | .getObj r k, w, w', _, h => by
    simp only [Sem.run] at h
    split at h
    · cases h
    · exact run_drawn _ h
    · cases h
  | .setObj r o k, w, w', _, h => by
    simp only [Sem.run] at h
    split at h
    · cases h
    · have := run_drawn k h; exact this
    · cases h
  | .choose q k, w, w', _, h => by
    simp only [Sem.run] at h
    split at h
    · exact run_drawn _ h
    · exact Nat.le_trans (Nat.le_succ w.drawn) (run_drawn (k _) h)
  | .sys c k, w, w', _, h => by
    simp only [Sem.run] at h
    exact Nat.le_trans (sys_drawn w c) (run_drawn _ h)
  | .program k, w, w', _, h => by simp only [Sem.run] at h; exact run_drawn _ h
  | .mark m k, w, w', _, h => by simp only [Sem.run] at h; exact run_drawn _ h
  | .halt h1, w, w', _, h => by cases h
structure Ext (w : World) (B : BM) (w' : World) (B' : BM) : Prop where
  os : w'.os = w.os
  tape : w'.tape = w.tape
  output : w'.output = w.output
  size : w.heap.size ≤ w'.heap.size
  drawn : w.drawn ≤ w'.drawn
  keep : ∀ i, i < w.heap.size → ¬ Own B i → w'.heap[i]? = w.heap[i]? ∧ ¬ Own B' i
  vers : BLe B B'
theorem Ext.refl (w : World) (B : BM) : Ext w B w B := ⟨rfl, rfl, rfl, Nat.le_refl _, Nat.le_refl _, fun _ _ h => ⟨rfl, h⟩, BLe.refl B⟩
theorem Ext.trans {a b c : World} {A B C : BM} (h : Ext a A b B) (k : Ext b B c C) : Ext a A c C :=
  ⟨k.os.trans h.os, k.tape.trans h.tape, k.output.trans h.output, Nat.le_trans h.size k.size, Nat.le_trans h.drawn k.drawn, fun i hi ho => by
    obtain ⟨e1, o1⟩ := h.keep i hi ho
    obtain ⟨e2, o2⟩ := k.keep i (Nat.lt_of_lt_of_le hi h.size) o1
    exact ⟨e2.trans e1, o2⟩, h.vers.trans k.vers⟩
theorem cell_lt {w : World} {a : Addr} {y : Value} (h : w.cell? a = some y) : a.block < w.heap.size := by
  rcases Nat.lt_or_ge a.block w.heap.size with h' | h'
  · exact h'
  · unfold World.cell? at h; rw [Array.getElem?_eq_none h'] at h; cases h
theorem Ext.cells {F : Nat → Prop} {w w' : World} {B B' : BM} (h : Ext w B w' B') : ∀ a y, ¬ Forb F B a.block → w.cell? a = some y → w'.cell? a = some y ∧ ¬ Forb F B' a.block := by
  intro a y hf hc
  obtain ⟨e, o⟩ := h.keep a.block (cell_lt hc) (fun ho => hf (.inr ho))
  refine ⟨?_, fun hx => hx.elim (fun hF => hf (.inl hF)) o⟩
  unfold World.cell? at hc ⊢
  rw [e]; exact hc
theorem VR.ext {F : Nat → Prop} {w w' : World} {B B' : BM} (h : Ext w B w' B') {x : AV} {v : Value} (k : VR w (Forb F B) B x v) : VR w' (Forb F B') B' x v :=
  VR.mono h.cells x B B' h.vers v k
theorem BRel.ext {F : Nat → Prop} {w w' : World} {B B' : BM} {blk : Blk} {g : Nat} {c : Option Nat} (h : BRel w (Forb F B) B blk g c) (hE : Ext w B w' B') (hg : w'.heap[g]? = w.heap[g]?) : BRel w' (Forb F B') B' blk g c :=
  h.keep hg (fun x v k => VR.mono hE.cells x B B' hE.vers v k) (fun x v k => VRL.mono hE.cells x B B' hE.vers v k)
theorem VRL.ext {F : Nat → Prop} {w w' : World} {B B' : BM} (h : Ext w B w' B') {x : List AV} {v : List Value} (k : VRL w (Forb F B) B x v) : VRL w' (Forb F B') B' x v :=
  VRL.mono h.cells x B B' h.vers v k
end Go.Proofs.YtpgipdajinkdgaaGreatA
