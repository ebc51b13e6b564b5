/- A part of the proof of AdornAsks: functions of the program, run by the evaluator. -/

/- Regions that draw their order: which operations look at memory, and which change it. -/
import Derived.Test.YtigfnhbbfbnicaaAvO
namespace Go.Proofs.YtigfnhbbfbnicaaA
open Go Go.RowKit
set_option linter.all false
set_option linter.unusedSectionVars false
set_option linter.constructorNameAsVariable false
set_option linter.unusedVariables false
set_option linter.unusedSimpArgs false
section
variable {P : Program} {H H' : List Blk} {ρ ρ' : Operand → AV} {o : Oper}
theorem nilTest_free {op : BinOp} {t : TypeId} {x y : AV} (h : ((match op with | .eql | .neq => true | _ => false) && refT P t) = false) : nilTest P H op t x y = none := by
  unfold nilTest
  split
  · rename_i hc
    simp only [Bool.and_eq_false_iff] at h
    rcases h with h | h
    · cases op <;> simp_all
    · have hz : ∀ z, nilKind P t z = 0 := by
        intro z
        unfold nilKind
        unfold refT at h
        split
        · split
          · rename_i e; rw [e] at h; cases h
          · rfl
        · split
          · rename_i e; rw [e] at h; cases h
          · rfl
        · split
          · rename_i e; rw [e] at h; cases h
          · rfl
        · rfl
      rw [hz, hz] at hc
      simp at hc
  · rfl
theorem ptrTest_free {op : BinOp} {t : TypeId} {x y : AV} (h : ((match op with | .eql | .neq => true | _ => false) && refT P t) = false) : ptrTest P H op t x y = none := by
  unfold ptrTest
  split <;> try rfl
  split <;> try rfl
  split <;> try rfl
  rename_i hu
  split <;> try rfl
  simp only [refT, hu, Bool.and_true] at h
  cases op <;> first | rfl | (cases h; done)
theorem makeFunc_val {fn : Fn} {first caps : Array Operand} (ho : o.op = .makeFunc fn first caps) {r : Res} (h : aop P H ρ o = some r) : ∃ x, r = .val x := by
  cases fn <;> simp only [aop, ho] at h
  case func f =>
    split at h
    · cases h; exact ⟨_, rfl⟩
    · cases h
  all_goals
    obtain ⟨y, _, rfl⟩ := Option.map_eq_some_iff.1 h
    exact ⟨y, rfl⟩
theorem aop_free (h : touchS P o.op = false) : aop P H ρ o = aop P H' ρ o := by
  cases ho : o.op <;> rw [ho] at h <;> simp only [touchS] at h <;> (try (cases h; done))
  case makeFunc fn x y => cases fn <;> simp only [aop, ho]
  case binOp op t x y yt => simp only [aop, ho]; rw [nilTest_free h, nilTest_free h, ptrTest_free h, ptrTest_free h]
  case convert src dst x =>
    simp only [aop, ho]
    simp only [Bool.or_eq_false_iff, refT] at h
    cases hx : ρ x <;> try rfl
    rename_i b off ver
    have key : ∀ HH : List Blk, (match P.underlying src, P.underlying dst, blkAt HH b ver with
      | some (.pointer t), some .unsafePointer, some blk => (match szOf P t with
        | some (_ + 1) => if off < blk.cells.length then some (Res.val (.ptr b off ver)) else none
        | _ => none)
      | some .unsafePointer, some (.pointer u), some blk =>
        if !blk.grow && (P.info? u).isSome && liesAt P P.depth blk.elem (blk.cells.length / P.cellsOf blk.elem) off u 1 then some (.val (.ptr b off ver)) else none
      | _, _, _ => none) = none := by
      intro HH
      split
      · rename_i hu _ _; rw [hu] at h; cases h.1
      · rename_i hu _ _; rw [hu] at h; cases h.1
      · rfl
    exact (key H).trans (key H').symm
  case call c =>
    simp only [aop, ho]
    cases hc : c.callee with
    | builtin b =>
      cases b <;> first | rfl | (simp [hc] at h; done) | skip
      simp only [hc] at h
      dsimp only
      split <;> try rfl
      rename_i x t hx ht
      rw [ht] at h
      simp only [mapT] at h
      split <;> try rfl
      split <;> try rfl
      rename_i hu
      rw [hu] at h
      cases h
    | value f => simp [hc] at h
    | invoke r m => simp [hc] at h
  all_goals simp only [aop, ho]
theorem aop_quiet {pure_ : FuncId → Bool} (h : modS pure_ o.op = false) {x : AV} {i : Nat} {b : Blk} : aop P H ρ o ≠ some (.upd x i b) := by
  intro hr
  have fin : ∀ u : Option AV, u.map Res.val ≠ some (.upd x i b) := by intro u; cases u <;> simp
  cases ho : o.op <;> rw [ho] at h <;> simp only [modS] at h <;> (try (cases h; done))
  case makeFunc fn x y => obtain ⟨_, e⟩ := makeFunc_val ho hr; cases e
  case call c =>
    simp only [aop, ho] at hr
    cases hc : c.callee with
    | builtin b =>
      rw [hc] at h hr
      cases b <;> simp only at h hr <;> first | (cases h; done) | (exact fin _ hr) | skip
      repeat' split at hr
      all_goals first | (exact fin _ hr) | (cases hr; done) | (obtain ⟨_, _, e⟩ := Option.map_eq_some_iff.1 hr; cases e; done)
    | value f => rw [hc] at hr; cases hr
    | invoke r m => rw [hc] at hr; cases hr
  all_goals
    simp only [aop, ho] at hr
    first
    | (exact fin _ hr)
    | (repeat' split at hr
       all_goals first | (exact fin _ hr) | (cases hr; done) | (simp at hr; done))
theorem aop_val (h : touchS P o.op = false) {r : Res} (hr : aop P H ρ o = some r) : ∃ x, r = .val x := by
  have fin : ∀ u : Option AV, u.map Res.val = some r → ∃ x, r = .val x := by intro u hz; obtain ⟨y, _, rfl⟩ := Option.map_eq_some_iff.1 hz; exact ⟨y, rfl⟩
  cases ho : o.op <;> rw [ho] at h <;> simp only [touchS] at h <;> (try (cases h; done))
  case makeFunc fn x y => exact makeFunc_val ho hr
  case call c =>
    simp only [aop, ho] at hr
    cases hc : c.callee with
    | builtin b =>
      rw [hc] at h hr
      cases b <;> simp only at h hr <;> first | (cases h; done) | (exact fin _ hr) | skip
      repeat' split at hr
      all_goals first | (exact fin _ hr) | (cases hr; exact ⟨_, rfl⟩) | (cases hr; done) | (obtain ⟨_, _, rfl⟩ := Option.map_eq_some_iff.1 hr; exact ⟨_, rfl⟩)
    | value f => rw [hc] at hr; cases hr
    | invoke r m => rw [hc] at hr; cases hr
  all_goals
    simp only [aop, ho] at hr
    first
    | (exact fin _ hr)
    | (repeat' split at hr
       all_goals first | (exact fin _ hr) | (cases hr; exact ⟨_, rfl⟩) | (cases hr; done) | (obtain ⟨_, _, rfl⟩ := Option.map_eq_some_iff.1 hr; exact ⟨_, rfl⟩))
theorem aop_new {x : AV} {b : Blk} (hr : aop P H ρ o = some (.new x b)) : touchS P o.op = true := by
  cases h : touchS P o.op with
  | true => rfl
  | false => obtain ⟨_, e⟩ := aop_val h hr; cases e
theorem aop_freeV (h : touchV ρ o.op = false) {x : AV} (hr : aop P H ρ o = some (.val x)) : aop P H' ρ o = some (.val x) := by
  have hs : ∀ u : AV, byVal u = true → (∃ a b, u = .lst a b) ∨ (∃ a, u = .ro a) ∨ (∃ a, u = .sc a) ∨ u = .z := by
    intro u hu
    cases u <;> simp only [byVal] at hu <;> (try (cases hu; done)) <;> simp
  cases ho : o.op <;> rw [ho] at h <;> simp only [touchV] at h <;> (try (cases h; done))
  case makeFunc fn x y => cases fn <;> simp only [aop, ho] at hr ⊢ <;> exact hr
  case load t y =>
    simp only [aop, ho] at hr ⊢
    rcases hs (ρ y) (by simpa using h) with ⟨a, b, e⟩ | ⟨a, e⟩ | ⟨a, e⟩ | e <;> rw [e] at hr ⊢ <;> exact hr
  case slice t y lo hi mx =>
    simp only [aop, ho] at hr ⊢
    rcases hs (ρ y) (by simpa using h) with ⟨a, b, e⟩ | ⟨a, e⟩ | ⟨a, e⟩ | e <;> rw [e] at hr ⊢ <;> exact hr
  case fieldAddr t y f =>
    simp only [aop, ho] at hr ⊢
    rcases hs (ρ y) (by simpa using h) with ⟨a, b, e⟩ | ⟨a, e⟩ | ⟨a, e⟩ | e <;> rw [e] at hr ⊢ <;> (repeat' split at hr) <;> first | (cases hr; done) | (simp_all; done) | (simp_all; omega)
  case indexAddr t y i =>
    simp only [aop, ho] at hr ⊢
    rcases hs (ρ y) (by simpa using h) with ⟨a, b, e⟩ | ⟨a, e⟩ | ⟨a, e⟩ | e <;> rw [e] at hr ⊢ <;> (repeat' split at hr) <;> first | (cases hr; done) | (simp_all; done) | (simp_all; omega)
  case binOp op t y z yt =>
    simp only [aop, ho] at hr ⊢
    simp only [Bool.not_eq_false', Bool.and_eq_true] at h
    have hk : ∀ u : AV, (toV u).isSome = true → some_ H u = some_ H' u := by
      intro u hu
      cases u <;> simp only [toV, Option.isSome_none] at hu <;> first | rfl | (cases hu; done)
    have : nilTest P H op t (ρ y) (ρ z) = nilTest P H' op t (ρ y) (ρ z) := by
      unfold nilTest
      rw [hk _ h.1, hk _ h.2]
    have hp : ∀ HH, ptrTest P HH op t (ρ y) (ρ z) = none := by
      intro HH
      cases hy : ρ y <;> first | rfl | skip
      rw [hy] at h
      cases h.1
    rw [hp] at hr
    rw [← this, hp]
    exact hr
  case convert src dst y =>
    simp only [aop, ho] at hr ⊢
    cases hy : ρ y <;> rw [hy] at h hr <;> first | (exact hr) | (cases h; done)
  case call c =>
    simp only [aop, ho] at hr ⊢
    cases hc : c.callee with
    | builtin b =>
      rw [hc] at h hr
      cases b <;> simp only at h hr ⊢ <;> first | (cases h; done) | (exact hr) | skip
      case len =>
        split at h
        · rename_i y hy
          have e0 : c.args[0]? = some y := by rw [← Array.getElem?_toList, hy]; rfl
          rw [e0] at hr ⊢
          cases ht : c.argTypes[0]? with
          | none => rw [ht] at hr; cases hr
          | some t =>
            rw [ht] at hr
            dsimp only at hr ⊢
            cases hv : ρ y <;> rw [hv] at h hr <;> first | (cases h; done) | (exact hr)
        · cases h
      case append =>
        split at hr <;> try (cases hr; done)
        rename_i s y t u e1 e2
        rw [e1] at h
        simp only [Bool.not_eq_false', Bool.and_eq_true] at h
        split at hr
        case isFalse =>
          exfalso
          unfold aappend2 at hr
          repeat' split at hr
          all_goals (cases hr; done)
        rename_i htu
        rw [if_pos htu]
        have he : ∀ k, elems H (ρ y) k = elems H' (ρ y) k := by
          intro k
          rcases hs (ρ y) h.2 with ⟨a, b, e⟩ | ⟨a, e⟩ | ⟨a, e⟩ | e <;> rw [e] <;> (try rfl)
          cases a <;> (try rfl)
          rename_i A n c
          cases n <;> rfl
        unfold aappend at hr ⊢
        split at hr <;> try (cases hr; done)
        split at hr <;> try (cases hr; done)
        split at hr <;> try (cases hr; done)
        split at hr <;> try (cases hr; done)
        rename_i hcond
        rw [if_pos hcond, ← he]
        split at hr <;> try (cases hr; done)
        split at hr <;> try (cases hr; done)
        rename_i hone
        rw [if_pos hone]
        rcases hs (ρ s) h.1 with ⟨a, b, e⟩ | ⟨a, e⟩ | ⟨a, e⟩ | e
        · rw [e] at hr; cases hr
        · rw [e] at hr; cases hr
        · rw [e] at hr ⊢
          split at hr <;> try (cases hr; done)
          · simp_all
          · split at hr <;> try (cases hr; done)
            rename_i hb
            rw [if_pos hb]
            split at hr
            · rename_i h0
              rw [if_pos h0]
              exact hr
            · cases hr
          · simp_all
        · rw [e] at hr ⊢
          simp only at hr ⊢
          split at hr <;> try (cases hr; done)
          rename_i hb
          rw [if_pos hb]
          split at hr
          · rename_i h0
            rw [if_pos h0]
            exact hr
          · cases hr
    | value f => rw [hc] at hr; cases hr
    | invoke r m => rw [hc] at hr; cases hr
  all_goals (simp only [aop, ho] at hr ⊢; exact hr)
end
end Go.Proofs.YtigfnhbbfbnicaaA
