/- A part of the proof of AdornAsks: functions of the program, run by the evaluator. -/

/- The abstract evaluator is right: lengths, tests against nil; operations that make a block. -/
import Derived.Test.YtigfnhbbfbnicaaAvF
namespace Go.Proofs.YtigfnhbbfbnicaaA
open Go Go.RowKit
set_option linter.all false
set_option linter.unusedSectionVars false
set_option linter.constructorNameAsVariable false
set_option linter.unusedVariables false
set_option linter.unusedSimpArgs false
section
variable {P : Program} {w : World} {F : Nat → Prop} {B : BM} {H : List Blk} {a : Act} {ρ : Operand → AV}
theorem slice_at {Fb : Nat → Prop} {x : AV} {v : Value} {n : Nat} (h : VR w Fb B x v) (hn : alen x = some n) : ∃ A c, v = .slice A n c := by
  cases x <;> simp only [alen] at hn <;> try (cases hn; done)
  · simp only [VR] at h
    cases hn
    obtain ⟨A, cap, _, hv, _⟩ := h
    exact ⟨A, cap, hv⟩
  · simp only [VR] at h
    cases hn
    obtain ⟨A, cap, _, _, _, hv, _⟩ := h
    exact ⟨A, cap, hv⟩
  · simp only [VR] at h
    cases hn
    obtain ⟨A, hv⟩ := h
    exact ⟨A, 0, hv⟩
theorem mapAt_some {b ver : Nat} {blk : Blk} {kvs : List (Value × AV)} (h : mapAt H b ver = some (blk, kvs)) : H[b]? = some blk ∧ blk.ver = ver ∧ blk.kind = .map kvs := by
  unfold mapAt at h
  split at h <;> try (cases h; done)
  rename_i bk hk
  split at h <;> try (cases h; done)
  rename_i l hkd
  cases hb : Nat.beq bk.ver ver
  · rw [hb] at h; cases h
  · rw [hb] at h
    cases h
    exact ⟨hk, Nat.eq_of_beq_eq_true hb, hkd⟩
theorem map_at (hH : HRw w F B H) {b ver : Nat} {v : Value} {blk : Blk} {kvs : List (Value × AV)} (h : VR w (Forb F B) B (.mp b ver) v) (hm : mapAt H b ver = some (blk, kvs)) :
    ∃ g es, v = .map (some g) ∧ (∃ c, B b = some (g, ver, c)) ∧ H[b]? = some blk ∧ w.heap[g]? = some (.map es kvs.length) ∧ es.size = kvs.length ∧
      ∀ (i : Nat) (e : MapEntry), es[i]? = some e → e.born = i ∧ ∃ k x, kvs[i]? = some (k, x) ∧ e.key = k ∧ VR w (Forb F B) B x e.val := by
  obtain ⟨hk, hv, hkd⟩ := mapAt_some hm
  simp only [VR] at h
  obtain ⟨r, g, v', c, rfl, e, _, hx⟩ := h
  obtain ⟨h1, h2⟩ := hH b g v' c blk e hk
  have hv' : v' = ver := by rw [h1, hv]
  subst hv'
  cases hx rfl
  simp only [BRel, hkd] at h2
  obtain ⟨es, p1, p2, p3⟩ := h2
  exact ⟨r, es, rfl, ⟨c, e⟩, hk, p1, p2, p3⟩
theorem run_getMap {g : Nat} {es : Array MapEntry} {n : Nat} (h : w.heap[g]? = some (.map es n)) : (getObj g).run P w = .ok (.map es n) w := by
  simp only [getObj, Sem.run, h]
theorem run_call {o : Oper} {c : Call} {b : Builtin} (ho : o.op = .call c) (hc : c.callee = .builtin b) :
    ∃ cs, execOp a.eval o = builtin b c.argTypes o.type cs (c.args.map a.eval) := by
  simp only [execOp, ho, resolve, hc, invoke, pure_bind]
  exact ⟨_, rfl⟩
theorem op_len (hH : HRw w F B H) (hρ : ∀ x, VR w (Forb F B) B (ρ x) (a.eval x)) {o : Oper} {c : Call} (ho : o.op = .call c) (hc : c.callee = .builtin .len) {r : Res} (h : aop P H ρ o = some r) :
    ∃ x, r = .val x ∧ ValOk P w F B a o x := by
  simp only [aop, ho, hc] at h
  split at h <;> try (cases h; done)
  rename_i x t hx ht
  split at h
  · rename_i n e hn hu
    cases h
    obtain ⟨A, cap, hv⟩ := slice_at (hρ x) hn
    refine ⟨_, rfl, .int .i64 n, ?_, by simp only [VR]⟩
    have h0 : (c.args.map a.eval)[0]? = some (.slice A n cap) := by rw [Array.getElem?_map, hx]; simp [hv]
    obtain ⟨cs, hcs⟩ := run_call (a := a) ho hc
    rw [hcs]
    simp only [builtin, Builtin.len_, ht, h0, Sem.run_bind, run_under hu, Result.andThen_ok, Sem.run_pure, goInt]
  · split at h
    · rename_i b ver k e e1 hu
      obtain ⟨q, hq, rfl⟩ := Option.map_eq_some_iff.1 h
      obtain ⟨blk, kvs⟩ := q
      have hx' := hρ x
      rw [e1] at hx'
      obtain ⟨g, es, hv, _, _, hg, hsz, _⟩ := map_at hH hx' hq
      refine ⟨_, rfl, .int .i64 kvs.length, ?_, by simp only [VR]⟩
      have h0 : (c.args.map a.eval)[0]? = some (.map (some g)) := by rw [Array.getElem?_map, hx]; simp [hv]
      obtain ⟨cs, hcs⟩ := run_call (a := a) ho hc
      rw [hcs]
      simp only [builtin, Builtin.len_, ht, h0, Sem.run_bind, run_under hu, Result.andThen_ok]
      rw [run_getMap hg]
      simp only [Result.andThen_ok, Sem.run_pure, goInt, hsz]
    · exact ValOk.of_sop hρ h
theorem some_at (hH : HRw w F B H) {x : AV} {v : Value} (h : VR w (Forb F B) B x v) (hs : some_ H x = true) :
    (kindOf x = 1 → ∃ a n c, v = .slice (some a) n c) ∧ (kindOf x = 2 → ∃ a, v = .pointer (some a)) ∧ (kindOf x = 3 → ∃ f c, v = .func f #[] c) := by
  cases x <;> try (simp only [some_] at hs; cases hs; done)
  case lst sz rows =>
    refine ⟨fun _ => ?_, (fun h => by cases h), (fun h => by cases h)⟩
    simp only [VR] at h
    obtain ⟨A, cap, ys, hv, _, hrows, hvr, hM⟩ := h
    rcases hM.2 with h0 | ⟨a0, e0, _⟩
    · subst h0
      have hl := (VRR.flat.1 hvr).length
      cases rows with
      | nil => simp [some_] at hs
      | cons r rs => cases r with
        | nil => simp [some_] at hs
        | cons u us => simp at hl
    · exact ⟨a0, _, _, by rw [hv, e0]⟩
  case own b o len sz ver =>
    refine ⟨fun _ => ?_, (fun h => by cases h), (fun h => by cases h)⟩
    obtain ⟨blk, hb⟩ := Option.isSome_iff_exists.1 hs
    obtain ⟨g, cap, c, hv, _⟩ := own_at hH h hb
    exact ⟨_, _, _, hv⟩
  case ptr =>
    refine ⟨(fun h => by cases h), fun _ => ?_, (fun h => by cases h)⟩
    simp only [VR] at h
    obtain ⟨a0, _, _, _, hv, _⟩ := h
    exact ⟨a0, hv⟩
  case ro =>
    refine ⟨(fun h => by cases h), fun _ => ?_, (fun h => by cases h)⟩
    simp only [VR] at h
    obtain ⟨a0, _, hv, _⟩ := h
    exact ⟨a0, hv⟩
  case fn =>
    refine ⟨(fun h => by cases h), (fun h => by cases h), fun _ => ?_⟩
    simp only [VR] at h
    obtain ⟨c, hv, _⟩ := h
    exact ⟨_, c, hv⟩
theorem nil_at {Fb : Nat → Prop} {t : TypeId} {y : AV} {u : Value} (h : VR w Fb B y u) :
    (nilKind P t y = 1 → ∃ n c e, u = .slice none n c ∧ P.underlying t = some (.slice e)) ∧ (nilKind P t y = 2 → ∃ e, u = .pointer none ∧ P.underlying t = some (.pointer e)) ∧ (nilKind P t y = 3 → ∃ p q v, u = .nilFunc ∧ P.underlying t = some (.func p q v)) ∧ nilKind P t y ≤ 3 := by
  unfold nilKind
  split
  · simp only [VR] at h
    split
    · rename_i e he
      exact ⟨fun _ => ⟨_, _, e, h, he⟩, (fun h => by cases h), (fun h => by cases h), by omega⟩
    · exact ⟨(fun h => by cases h), (fun h => by cases h), (fun h => by cases h), by omega⟩
  · simp only [VR] at h
    split
    · rename_i e he
      exact ⟨(fun h => by cases h), fun _ => ⟨e, h, he⟩, (fun h => by cases h), by omega⟩
    · exact ⟨(fun h => by cases h), (fun h => by cases h), (fun h => by cases h), by omega⟩
  · simp only [VR] at h
    split
    · rename_i p q v he
      exact ⟨(fun h => by cases h), (fun h => by cases h), fun _ => ⟨p, q, v, h, he⟩, by omega⟩
    · exact ⟨(fun h => by cases h), (fun h => by cases h), (fun h => by cases h), by omega⟩
  · exact ⟨(fun h => by cases h), (fun h => by cases h), (fun h => by cases h), by omega⟩
def Unlike (P : Program) (t : TypeId) (v u : Value) : Prop :=
  (∃ a n c n' c' e, v = .slice (some a) n c ∧ u = .slice none n' c' ∧ P.underlying t = some (.slice e)) ∨ (∃ a e, v = .pointer (some a) ∧ u = .pointer none ∧ P.underlying t = some (.pointer e)) ∨ (∃ f c p q r, v = .func f #[] c ∧ u = .nilFunc ∧ P.underlying t = some (.func p q r))
theorem Unlike.equalIn {t : TypeId} {v u : Value} (h : Unlike P t v u) (d : Nat) : (Op.equalIn (d + 1) t v u).run P w = .ok false w ∧ (Op.equalIn (d + 1) t u v).run P w = .ok false w := by
  rcases h with ⟨a, n, c, n', c', e, rfl, rfl, hu⟩ | ⟨a, e, rfl, rfl, hu⟩ | ⟨f, c, p, q, r, rfl, rfl, hu⟩ <;>
    exact ⟨by simp only [Op.equalIn, Sem.run_bind, run_under hu, Result.andThen_ok]; rfl, by simp only [Op.equalIn, Sem.run_bind, run_under hu, Result.andThen_ok]; rfl⟩
theorem Unlike.equal {t : TypeId} {v u : Value} (h : Unlike P t v u) : (Op.equal t v u).run P w = .ok false w ∧ (Op.equal t u v).run P w = .ok false w := h.equalIn 9999
theorem Unlike.run {t : TypeId} {v u : Value} (h : Unlike P t v u) {op : BinOp} {b : Bool} (hb : (match op with | .eql => some false | .neq => some true | _ => none) = some b) (x y : Operand) :
    ((do eqGuard op t x y v u; binOp op t v u).run P w = .ok (.bool b) w) ∧ ((do eqGuard op t x y u v; binOp op t u v).run P w = .ok (.bool b) w) := by
  obtain ⟨h1, h2⟩ := h.equal (w := w)
  have g1 : (eqGuard op t x y v u).run P w = .ok () w ∧ (eqGuard op t x y u v).run P w = .ok () w := by
    unfold eqGuard
    rcases h with ⟨a, n, c, n', c', e, rfl, rfl, hu⟩ | ⟨a, e, rfl, rfl, hu⟩ | ⟨f, c, p, q, r, rfl, rfl, hu⟩ <;> cases op <;> exact ⟨rfl, rfl⟩
  simp only [Sem.run_bind, g1.1, g1.2, Result.andThen_ok]
  cases op <;> simp only at hb <;> try (cases hb; done)
  all_goals
    cases hb
    rcases h with ⟨a, n, c, n', c', e, rfl, rfl, hu⟩ | ⟨a, e, rfl, rfl, hu⟩ | ⟨f, c, p, q, r, rfl, rfl, hu⟩ <;>
      (constructor <;> simp only [binOp, Sem.run_bind, h1, h2, Result.andThen_ok] <;> rfl)
theorem run_sameAddr_own {g o o' : Nat} : (sameAddr ⟨g, o, none⟩ ⟨g, o', none⟩).run P w = .ok (o == o') w := by
  have hb : ((⟨g, o, none⟩ : Addr).block == (⟨g, o', none⟩ : Addr).block) = true := by simp
  have he : ((⟨g, o, none⟩ : Addr) == ⟨g, o', none⟩) = (o == o') := by
    rw [Bool.eq_iff_iff]; simp
  unfold sameAddr
  rw [if_pos hb]
  rw [show (pure ((⟨g, o, none⟩ : Addr) == ⟨g, o', none⟩) : Sem Bool) = pure (o == o') by rw [he]]
  rfl
theorem ptrTest_run (hH : HRw w F B H) {op : BinOp} {t : TypeId} {x y : AV} {v u : Value} {b : Bool} (hx : VR w (Forb F B) B x v) (hy : VR w (Forb F B) B y u) (h : ptrTest P H op t x y = some b) (p q : Operand) :
    (do eqGuard op t p q v u; binOp op t v u : Sem Value).run P w = .ok (.bool b) w := by
  unfold ptrTest at h
  split at h <;> try (cases h; done)
  rename_i b1 o1 v1 b2 o2 v2
  split at h <;> try (cases h; done)
  rename_i hc
  simp only [Bool.and_eq_true, decide_eq_true_eq, beq_iff_eq] at hc
  obtain ⟨rfl, rfl⟩ := hc
  split at h <;> try (cases h; done)
  rename_i blk e hb hu
  split at h <;> try (cases h; done)
  rename_i n hs
  obtain ⟨g, c, rfl, hB, _⟩ := ptr_at hH hx hb
  obtain ⟨g2, c2, rfl, hB2, _⟩ := ptr_at hH hy hb
  rw [hB] at hB2
  cases hB2
  have heq : ∀ d, (Op.equalIn (d + 1) t (.pointer (some ⟨g, o1, none⟩)) (.pointer (some ⟨g, o2, none⟩))).run P w = .ok (o1 == o2) w := by
    intro d
    simp only [Op.equalIn, Sem.run_bind, run_under hu, Result.andThen_ok, run_szOf hs]
    rw [Sem.run_ite, if_pos (Nat.succ_ne_zero _)]
    exact run_sameAddr_own
  have he : (Op.equal t (.pointer (some ⟨g, o1, none⟩)) (.pointer (some ⟨g, o2, none⟩))).run P w = .ok (o1 == o2) w := heq 9999
  have hg : (eqGuard op t p q (.pointer (some ⟨g, o1, none⟩)) (.pointer (some ⟨g, o2, none⟩))).run P w = .ok () w := by
    unfold eqGuard
    cases op <;> rfl
  simp only [Sem.run_bind, hg, Result.andThen_ok]
  cases op <;> simp only at h <;> try (cases h; done)
  · cases h; simp only [binOp, Sem.run_bind, he, Result.andThen_ok]; rfl
  · cases h; simp only [binOp, Sem.run_bind, he, Result.andThen_ok]; rfl
theorem op_binOp (hH : HRw w F B H) (hρ : ∀ x, VR w (Forb F B) B (ρ x) (a.eval x)) {o : Oper} {op : BinOp} {t yt : TypeId} {x y : Operand} (ho : o.op = .binOp op t x y yt) {r : Res} (h : aop P H ρ o = some r) :
    ∃ x, r = .val x ∧ ValOk P w F B a o x := by
  simp only [aop, ho] at h
  split at h
  · rename_i b hb
    cases h
    refine ⟨_, rfl, .bool b, ?_, by simp only [VR]⟩
    unfold nilTest at hb
    split at hb <;> try (cases hb; done)
    rename_i hc
    simp only [Bool.and_eq_true, Bool.or_eq_true, bne_iff_ne, beq_iff_eq] at hc
    have key : ∀ p q : Operand, some_ H (ρ p) = true → nilKind P t (ρ q) ≠ 0 → kindOf (ρ p) = nilKind P t (ρ q) → Unlike P t (a.eval p) (a.eval q) := by
      intro p q hp hq hk
      obtain ⟨s1, s2, s3⟩ := some_at hH (hρ p) hp
      obtain ⟨n1, n2, n3, n4⟩ := nil_at (P := P) (t := t) (hρ q)
      rw [hk] at s1 s2 s3
      rcases (show nilKind P t (ρ q) = 1 ∨ nilKind P t (ρ q) = 2 ∨ nilKind P t (ρ q) = 3 by omega) with e | e | e
      · obtain ⟨a0, n, c, e1⟩ := s1 e
        obtain ⟨n', c', e', e2, e3⟩ := n1 e
        exact .inl ⟨a0, n, c, n', c', e', e1, e2, e3⟩
      · obtain ⟨a0, e1⟩ := s2 e
        obtain ⟨e', e2, e3⟩ := n2 e
        exact .inr (.inl ⟨a0, e', e1, e2, e3⟩)
      · obtain ⟨f, c, e1⟩ := s3 e
        obtain ⟨p', q', r', e2, e3⟩ := n3 e
        exact .inr (.inr ⟨f, c, p', q', r', e1, e2, e3⟩)
    simp only [execOp, ho]
    rcases hc with ⟨⟨h3, h4⟩, h5⟩ | ⟨⟨h3, h4⟩, h5⟩
    · have := ((key x y h3 h4 h5).run (w := w) hb x y).1
      rw [Sem.run_bind, this]
      rfl
    · have := ((key y x h3 h4 h5).run (w := w) hb x y).2
      rw [Sem.run_bind, this]
      rfl
  · split at h
    · rename_i b hb
      cases h
      refine ⟨_, rfl, .bool b, ?_, by simp only [VR]⟩
      have := ptrTest_run (P := P) hH (hρ x) (hρ y) hb x y
      simp only [execOp, ho]
      rw [Sem.run_bind, this]
      rfl
    · exact ValOk.of_sop hρ h
end
end Go.Proofs.YtigfnhbbfbnicaaA
