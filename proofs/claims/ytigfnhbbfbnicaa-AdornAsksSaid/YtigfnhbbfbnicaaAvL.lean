/- A part of the proof of AdornAsks: functions of the program, run by the evaluator. -/

/- The abstract evaluator is right: calls that leave the caller's memory alone. -/
import Derived.Test.YtigfnhbbfbnicaaAvK
namespace Go.Proofs.YtigfnhbbfbnicaaA
open Go Go.RowKit
set_option linter.all false
set_option linter.unusedSectionVars false
set_option linter.constructorNameAsVariable false
set_option linter.unusedVariables false
set_option linter.unusedSimpArgs false
theorem new_sound {P : Program} {w : World} {F : Nat → Prop} {B : BM} {Hb Hb' : List Blk} {n : Nat} {a : Act} {o : Oper} {x : AV} {blk : Blk} (hN : NewOk' P w F B n a o x blk) (hfresh : B n = none) (hR : HR w F B Hb) (hn : Hb'[n]? = some blk) (hag : ∀ b e, B b = some e → Hb'[b]? = Hb[b]?) :
    ∃ v w' B', (execOp a.eval o).run P w = .ok (.value v) w' ∧ Ext w B w' B' ∧ HR w' F B' Hb' ∧ VR w' (Forb F B') B' x v ∧ (∃ e, B' n = some e) ∧ ∀ b, b ≠ n → B' b = B b := by
  obtain ⟨v, w', c, hrun, e1, e2, e3, hsz, hold, hnew, hver, hx⟩ := hN
  let B' : BM := fun b => if b = n then some (w.heap.size, 0, c) else B b
  have hBn : B' n = some (w.heap.size, 0, c) := by simp [B']
  have hBo : ∀ b, b ≠ n → B' b = B b := fun b hb => by simp [B', hb]
  have hlt : ∀ b g v c, B b = some (g, v, c) → g < w.heap.size := fun b g v c h => by
    obtain ⟨_, _, _, p1⟩ := hR.at_ b g v c h
    exact p1.lt
  have hE : Ext w B w' B' := by
    refine ⟨e1, e2, e3, Nat.le_of_lt hsz, run_drawn _ hrun, fun i hi ho => ⟨hold i hi, ?_⟩, fun b g v c hb => ⟨g, v, c, ?_, Nat.le_refl _, fun _ => ⟨rfl, rfl⟩⟩⟩
    · rintro ⟨b, v1, c1, hb⟩
      by_cases hbn : b = n
      · subst hbn; rw [hBn] at hb; cases hb; omega
      · rw [hBo b hbn] at hb; exact ho ⟨b, v1, c1, hb⟩
    · rw [hBo b (fun e => by rw [e, hfresh] at hb; cases hb)]; exact hb
  refine ⟨v, w', B', hrun, hE, ⟨?_, ?_, ?_, fun i hi => Nat.lt_trans (hR.lt i hi) hsz⟩, hx _ _ _ hBn, ⟨_, hBn⟩, hBo⟩
  · intro b g v1 c1 hb
    by_cases hbn : b = n
    · subst hbn
      rw [hBn] at hb
      cases hb
      exact ⟨blk, hn, hver.symm, hnew B' hE⟩
    · rw [hBo b hbn] at hb
      obtain ⟨blk1, k1, k2, p1⟩ := hR.at_ b g v1 c1 hb
      exact ⟨blk1, by rw [hag b _ hb]; exact k1, k2, p1.ext hE (hold g p1.lt)⟩
  · intro b1 b2 g v1 v2 c1 c2 h1 h2
    by_cases n1 : b1 = n <;> by_cases n2 : b2 = n
    · rw [n1, n2]
    · subst n1; rw [hBn] at h1; rw [hBo b2 n2] at h2; cases h1; have := hlt _ _ _ _ h2; omega
    · subst n2; rw [hBn] at h2; rw [hBo b1 n1] at h1; cases h2; have := hlt _ _ _ _ h1; omega
    · rw [hBo b1 n1] at h1; rw [hBo b2 n2] at h2; exact hR.inj _ _ _ _ _ _ _ h1 h2
  · intro b g v1 c1 hb hF
    by_cases hbn : b = n
    · subst hbn; rw [hBn] at hb; cases hb; have := hR.lt _ hF; omega
    · rw [hBo b hbn] at hb; exact hR.nf _ _ _ _ hb hF
theorem chunks_len {sz : Nat} : ∀ {n : Nat} {l : List AV}, (chunks sz n l).length = n
  | 0, _ => rfl
  | n + 1, l => by simp [chunks, chunks_len]
theorem chunks_row {sz : Nat} : ∀ {n : Nat} {l : List AV}, l.length = n * sz → ∀ r ∈ chunks sz n l, r.length = sz
  | 0, _, _, r, hr => by cases hr
  | n + 1, l, hl, r, hr => by
    rw [Nat.add_mul, Nat.one_mul] at hl
    simp only [chunks, List.mem_cons] at hr
    rcases hr with rfl | hr
    · rw [List.length_take]; omega
    · exact chunks_row (by rw [List.length_drop]; omega) r hr
theorem chunks_flat {sz : Nat} : ∀ {n : Nat} {l : List AV}, l.length = n * sz → (chunks sz n l).flatten = l
  | 0, l, hl => by rw [Nat.zero_mul] at hl; rw [List.eq_nil_of_length_eq_zero hl]; rfl
  | n + 1, l, hl => by
    rw [Nat.add_mul, Nat.one_mul] at hl
    simp only [chunks, List.flatten_cons]
    rw [chunks_flat (by rw [List.length_drop]; omega), List.take_append_drop]
theorem amap_sound {w : World} {Fb Fb' : Nat → Prop} {B B' : BM} {f : AV → Option AV} (hf : ∀ x y v, f x = some y → VR w Fb B x v → VR w Fb' B' y v) : ∀ {xs ys : List AV} {vs : List Value}, amap f xs = some ys → VRL w Fb B xs vs → VRL w Fb' B' ys vs ∧ ys.length = xs.length
  | [], ys, vs, h, hv => by
    simp only [amap, Option.some.injEq] at h
    subst h
    simp only [VRL] at hv
    exact ⟨by simp only [VRL]; exact hv, rfl⟩
  | x :: xs, ys, vs, h, hv => by
    simp only [amap] at h
    split at h <;> try (cases h; done)
    rename_i y ys' hx hxs
    cases h
    simp only [VRL] at hv
    obtain ⟨v, r, rfl, h1, h2⟩ := hv
    obtain ⟨h3, h4⟩ := amap_sound hf hxs h2
    exact ⟨by simp only [VRL]; exact ⟨v, r, rfl, hf _ _ _ hx h1, h3⟩, by simp [h4]⟩
theorem nil_VR {w : World} {Fb : Nat → Prop} {B : BM} {A : Option Addr} {cap : Nat} : VR w Fb B (.lst 0 []) (.slice A 0 cap) := VR.empty
theorem mkL_ok {w : World} {B : BM} {Fb : Nat → Prop} {sz : Nat} {R : List (List AV)} {v : Value} (h : VR w Fb B (.lst sz R) v) : VR w Fb B (mkL sz R) v := mkL_VR h (.inl rfl)
theorem rb_sound {w : World} {F : Nat → Prop} {B : BM} {H : List Blk} (hH : HRw w F B H) (hnf : ∀ b g v c, B b = some (g, v, c) → ¬ F g) : ∀ (k : Nat) (x y : AV) (v : Value), rb H k x = some y → VR w (Forb F B) B x v → VR w F BM.none y v
  | 0, _, _, _, h, _ => by simp only [rb] at h; cases h
  | k + 1, x, y, v, h, hv => by
    have ih := rb_sound hH hnf k
    have hm : ∀ (a : Addr) (y : Value), ¬ Forb F B a.block → w.cell? a = some y → w.cell? a = some y ∧ ¬ F a.block := fun a y hf hc => ⟨hc, fun h => hf (.inl h)⟩
    cases x with
    | agg cs =>
      simp only [rb] at h
      obtain ⟨l, hl, rfl⟩ := Option.map_eq_some_iff.1 h
      simp only [VR] at hv ⊢
      obtain ⟨c, e, hv⟩ := hv
      exact ⟨c, e, (amap_sound ih hl hv).1⟩
    | tup cs =>
      simp only [rb] at h
      obtain ⟨l, hl, rfl⟩ := Option.map_eq_some_iff.1 h
      simp only [VR] at hv ⊢
      obtain ⟨c, e, hv⟩ := hv
      exact ⟨c, e, (amap_sound ih hl hv).1⟩
    | fn f cs =>
      simp only [rb] at h
      obtain ⟨l, hl, rfl⟩ := Option.map_eq_some_iff.1 h
      simp only [VR] at hv ⊢
      obtain ⟨c, e, hv⟩ := hv
      exact ⟨c, e, (amap_sound ih hl hv).1⟩
    | ifc t x =>
      simp only [rb] at h
      obtain ⟨l, hl, rfl⟩ := Option.map_eq_some_iff.1 h
      simp only [VR] at hv ⊢
      obtain ⟨u, e, hv⟩ := hv
      exact ⟨u, e, ih _ _ _ hl hv⟩
    | own b o len sz ver =>
      simp only [rb] at h
      split at h <;> try (cases h; done)
      rename_i blk hb
      split at h <;> try (cases h; done)
      rename_i cs hcs
      obtain ⟨l, hl, rfl⟩ := Option.map_eq_some_iff.1 h
      obtain ⟨g, cap, c, rfl, hB, hcap, _, hbr⟩ := own_at hH hv hb
      obtain ⟨ys, hys, hlen, h1, hc⟩ := rd_mem hbr hcs
      obtain ⟨h3, h4⟩ := amap_sound ih hl hys
      have hll : l.length = len * sz := by rw [h4, hlen]
      refine mkL_ok ?_
      simp only [VR]
      refine ⟨_, cap, ys, by rw [chunks_len], by rw [chunks_len]; exact hcap, chunks_row hll, ?_, h1, .inr ⟨_, rfl, hnf b g ver c hB, hc⟩⟩
      rw [VRR.flat, chunks_flat hll]
      exact h3
    | ptr b off ver =>
      simp only [rb] at h
      split at h <;> try (cases h; done)
      rename_i blk hb
      obtain ⟨l, hl, rfl⟩ := Option.map_eq_some_iff.1 h
      obtain ⟨g, c, rfl, hB, hbr⟩ := ptr_at hH hv hb
      obtain ⟨ys, hys, h1, hc⟩ := brel_cells hbr
      obtain ⟨h3, h4⟩ := amap_sound ih hl (VRL.drop off hys)
      simp only [VR]
      refine ⟨_, ys.drop off, rfl, h3, fun y hy => h1 y (List.mem_of_mem_drop hy), .inr ⟨_, rfl, hnf b g ver c hB, fun j y hj => ?_⟩⟩
      rw [List.getElem?_drop] at hj
      have := hc _ _ hj
      rw [addr_add, Nat.zero_add] at this
      rwa [addr_add]
    | bad => simp only [rb, Option.some.injEq] at h; subst h; simp only [VR]
    | mp b ver => simp only [rb] at h; cases h
    | sc u =>
      simp only [VR] at hv
      subst hv
      unfold rb at h
      split at h <;> (try (rename_i e; cases e; done))
      all_goals first
        | (rename_i e; injection e with e; subst e; cases h; exact nil_VR)
        | (cases h; simp only [VR]; done)
        | (simp only [Option.some.injEq] at h; subst h; simp only [VR]; done)
        | skip
    | z =>
      simp only [rb, Option.some.injEq] at h
      subst h
      simp only [VR] at hv
      obtain ⟨A, rfl⟩ := hv
      exact nil_VR
    | lst sz rows =>
      simp only [rb, Option.some.injEq] at h
      subst h
      simp only [VR] at hv
      obtain ⟨A, cap, ys, e, hl, hr, h1, hM⟩ := hv
      refine mkL_ok ?_
      simp only [VR]
      exact ⟨A, cap, ys, e, hl, hr, VRR.mono hm _ _ h1, hM.mono hm⟩
    | ro cs =>
      simp only [rb] at h
      obtain ⟨l, hl, rfl⟩ := Option.map_eq_some_iff.1 h
      simp only [VR] at hv ⊢
      obtain ⟨a0, ys, e, h1, hM⟩ := hv
      have h2 := VRL.mono (w := w) (w' := w) (Fb := Forb F B) (Fb' := Forb F B) (fun a y hf hc => ⟨hc, hf⟩) _ _ B (BLe.none B) _ h1
      exact ⟨a0, ys, e, (amap_sound ih hl h2).1, hM.mono hm⟩
mutual
theorem pv_sound {w : World} {Fb : Nat → Prop} {B : BM} : ∀ (k : Nat) (x : AV) (v : Value), pv k x = true → VR w Fb B x v → VR w Fb BM.none x v
  | 0, _, _, h, _ => by simp only [pv] at h; cases h
  | k + 1, x, v, h, hv => by
    cases x with
    | agg cs => simp only [pv] at h; simp only [VR] at hv ⊢; obtain ⟨c, e, hv⟩ := hv; exact ⟨c, e, pvl_sound k cs _ h hv⟩
    | tup cs => simp only [pv] at h; simp only [VR] at hv ⊢; obtain ⟨c, e, hv⟩ := hv; exact ⟨c, e, pvl_sound k cs _ h hv⟩
    | fn f cs => simp only [pv] at h; simp only [VR] at hv ⊢; obtain ⟨c, e, hv⟩ := hv; exact ⟨c, e, pvl_sound k cs _ h hv⟩
    | ifc t y => simp only [pv] at h; simp only [VR] at hv ⊢; obtain ⟨u, e, hv⟩ := hv; exact ⟨u, e, pv_sound k y u h hv⟩
    | own => simp only [pv] at h; cases h
    | ptr => simp only [pv] at h; cases h
    | mp => simp only [pv] at h; cases h
    | bad => simp only [VR]
    | sc u => simp only [VR] at hv ⊢; exact hv
    | z => simp only [VR] at hv ⊢; exact hv
    | lst sz rows => simp only [VR] at hv ⊢; exact hv
    | ro cs => simp only [VR] at hv ⊢; exact hv
theorem pvl_sound {w : World} {Fb : Nat → Prop} {B : BM} : ∀ (k : Nat) (xs : List AV) (vs : List Value), xs.all (pv k) = true → VRL w Fb B xs vs → VRL w Fb BM.none xs vs
  | _, [], _, _, hv => by simp only [VRL] at hv ⊢; exact hv
  | k, x :: xs, vs, h, hv => by
    simp only [List.all_cons, Bool.and_eq_true] at h
    simp only [VRL] at hv ⊢
    obtain ⟨v, r, e, h1, h2⟩ := hv
    exact ⟨v, r, e, pv_sound k x v h.1 h1, pvl_sound k xs r h.2 h2⟩
end
def CallOk (P : Program) (f : FuncId) (args : List AV) (H : List Blk) (r : AV) (H' : List Blk) : Prop :=
  ∀ w F B vs, HR w F B H → Full B H → VRL w (Forb F B) B args vs →
    Calls P f vs.toArray w fun e w' => ∃ v B', e = .returned v ∧ Ext w B w' B' ∧ HR w' F B' H' ∧ Full B' H' ∧ VR w' (Forb F B') B' r v
def Enter (P : Program) (f : FuncId) : Prop := ∃ fn, P.funcs[f]? = some fn ∧ fn.name ≠ "runtime.NumGoroutine" ∧ fn.body.isSome = true
def FunOk (P : Program) (call : Fun) : Prop := ∀ f args H r H', call f args H = some (r, H') → Enter P f ∧ CallOk P f args H r H'
def PureOk (P : Program) (f : FuncId) (args : List AV) (H : List Blk) (r : AV) : Prop :=
  ∀ w F B vs Hb, HR w F B Hb → HRw w F B H → VRL w (Forb F B) B args vs →
    Calls P f vs.toArray w fun e w' => ∃ v, e = .returned v ∧ Ext w B w' B ∧ HR w' F B Hb ∧ VR w' (Forb F B) B r v
theorem own_lt {w : World} {F : Nat → Prop} {B : BM} {H : List Blk} (hR : HR w F B H) {i : Nat} (h : Own B i) : i < w.heap.size := by
  obtain ⟨b, v, c, hb⟩ := h
  obtain ⟨_, _, _, p1⟩ := hR.at_ b i v c hb
  exact p1.lt
theorem none_own {i : Nat} : ¬ Own BM.none i := fun ⟨_, _, _, h⟩ => by cases h
theorem HR.empty {w : World} {F : Nat → Prop} (h : ∀ i, F i → i < w.heap.size) : HR w F BM.none [] :=
  ⟨(fun _ _ _ _ h => by cases h), (fun _ _ _ _ _ _ _ h => by cases h), (fun _ _ _ _ h => by cases h), h⟩
theorem ext_of_empty {w w' : World} {F : Nat → Prop} {B B1 : BM} {H : List Blk} (hR : HR w F B H) (h : Ext w BM.none w' B1) : Ext w B w' B ∧ HR w' F B H := by
  have hE : Ext w B w' B := ⟨h.os, h.tape, h.output, h.size, h.drawn, fun i hi ho => ⟨(h.keep i hi none_own).1, ho⟩, BLe.refl B⟩
  refine ⟨hE, fun b g v c hb => ?_, hR.inj, hR.nf, fun i hi => Nat.lt_of_lt_of_le (hR.lt i hi) h.size⟩
  obtain ⟨blk, k1, k2, p1⟩ := hR.at_ b g v c hb
  exact ⟨blk, k1, k2, p1.ext hE (h.keep g p1.lt none_own).1⟩
section
variable {P : Program} {mode : FuncId → Nat} {call : Fun}
theorem rb_none {w : World} {Fb : Nat → Prop} {H : List Blk} {k : Nat} {x y : AV} {v : Value} (h : rb H k x = some y) (hv : VR w Fb BM.none x v) : VR w Fb BM.none y v := by
  have e : Forb Fb BM.none = Fb := by
    funext i
    apply propext
    constructor
    · rintro (h | ⟨b, v, c, h⟩)
      · exact h
      · cases h
    · exact fun h => .inl h
  refine rb_sound (B := BM.none) (H := H) (fun b g v c blk hb => by cases hb) (fun b g v c hb => by cases hb) k x y v h ?_
  rw [e]
  exact hv
theorem rb_sc_any {w : World} {Fb : Nat → Prop} {B : BM} {H : List Blk} {k : Nat} {u : Value} {y : AV} (h : rb H k (.sc u) = some y) : VR w Fb B y u := by
  cases k with
  | zero => simp only [rb] at h; cases h
  | succ k =>
    unfold rb at h
    split at h <;> (try (rename_i e; cases e; done))
    all_goals first
      | (rename_i e; injection e with e; subst e; cases h; exact nil_VR)
      | (simp only [Option.some.injEq] at h; subst h; simp only [VR]; done)
theorem toVs_rb {w w' : World} {Fb Fb' : Nat → Prop} {B B' : BM} {H : List Blk} {k : Nat} : ∀ {xs ys : List AV} {vs : List Value}, (toVs xs).isSome = true → amap (rb H k) xs = some ys → VRL w Fb B xs vs → VRL w' Fb' B' ys vs
  | [], ys, vs, _, h, hv => by
    simp only [amap, Option.some.injEq] at h
    subst h
    simp only [VRL] at hv ⊢
    exact hv
  | x :: xs, ys, vs, hp, h, hv => by
    simp only [amap] at h
    split at h <;> try (cases h; done)
    rename_i y ys' hx hxs
    cases h
    simp only [VRL] at hv
    obtain ⟨v, r, rfl, h1, h2⟩ := hv
    cases x <;> simp only [toVs] at hp <;> try (cases hp; done)
    rename_i u
    simp only [VR] at h1
    subst h1
    simp only [VRL]
    exact ⟨v, r, rfl, rb_sc_any hx, toVs_rb (by simpa using hp) hxs h2⟩
theorem agg_rb {w w' : World} {Fb Fb' : Nat → Prop} {B B' : BM} {H : List Blk} {k : Nat} {cs : List AV} {y : AV} {v : Value} (hp : (toVs cs).isSome = true) (h : rb H k (.agg cs) = some y) (hv : VR w Fb B (.agg cs) v) : VR w' Fb' B' y v := by
  cases k with
  | zero => simp only [rb] at h; cases h
  | succ k =>
    simp only [rb] at h
    obtain ⟨l, hl, rfl⟩ := Option.map_eq_some_iff.1 h
    simp only [VR] at hv ⊢
    obtain ⟨c, e, hv⟩ := hv
    exact ⟨c, e, toVs_rb hp hl hv⟩
theorem tup_rb {w w' : World} {Fb Fb' : Nat → Prop} {B B' : BM} {H : List Blk} {k : Nat} : ∀ {xs ys : List AV} {vs : List Value}, (xs.all fun | .sc _ => true | .agg ds => (toVs ds).isSome | _ => false) = true → amap (rb H k) xs = some ys → VRL w Fb B xs vs → VRL w' Fb' B' ys vs
  | [], ys, vs, _, h, hv => by
    simp only [amap, Option.some.injEq] at h
    subst h
    simp only [VRL] at hv ⊢
    exact hv
  | x :: xs, ys, vs, hp, h, hv => by
    simp only [amap] at h
    split at h <;> try (cases h; done)
    rename_i y ys' hx hxs
    cases h
    simp only [VRL] at hv
    obtain ⟨v, r, rfl, h1, h2⟩ := hv
    simp only [List.all_cons, Bool.and_eq_true] at hp
    simp only [VRL]
    refine ⟨v, r, rfl, ?_, tup_rb hp.2 hxs h2⟩
    cases x <;> simp only [Bool.false_eq_true, false_and] at hp
    · simp only [VR] at h1; subst h1; exact rb_sc_any hx
    · exact agg_rb hp.1 hx h1
theorem plain_rb {w w' : World} {Fb Fb' : Nat → Prop} {B B' : BM} {H : List Blk} {k : Nat} {x y : AV} {v : Value} (hp : plainV x = true) (h : rb H k x = some y) (hv : VR w Fb B x v) : VR w' Fb' B' y v := by
  cases x <;> simp only [plainV] at hp <;> try (cases hp; done)
  · simp only [VR] at hv; subst hv; exact rb_sc_any h
  · exact agg_rb hp h hv
  · cases k with
    | zero => simp only [rb] at h; cases h
    | succ k =>
      simp only [rb] at h
      obtain ⟨l, hl, rfl⟩ := Option.map_eq_some_iff.1 h
      simp only [VR] at hv ⊢
      obtain ⟨c, e, hv⟩ := hv
      exact ⟨c, e, tup_rb hp hl hv⟩
theorem fresh_ok {w w' : World} {F : Nat → Prop} {B B1 : BM} {Hb H1 : List Blk} {r y : AV} {v : Value} {k : Nat} (hR : HR w F B Hb) (hE : Ext w BM.none w' B1) (hR1 : HR w' F B1 H1) (hf : freshR H1 r = true) (h : rb H1 k r = some y) (hr : VR w' (Forb F B1) B1 r v) : VR w' (Forb F B) B y v := by
  cases r with
  | own b o len sz ver =>
    cases k with
    | zero => simp only [rb] at h; cases h
    | succ k =>
      simp only [freshR] at hf
      simp only [rb] at h
      split at h <;> try (cases h; done)
      rename_i blk hb
      rw [hb] at hf
      dsimp only at hf
      split at h <;> try (cases h; done)
      rename_i cs hcs
      rw [hcs] at hf
      dsimp only at hf
      obtain ⟨l, hl, rfl⟩ := Option.map_eq_some_iff.1 h
      obtain ⟨g, cap, c, rfl, hB, hcap, _, hbr⟩ := own_at hR1.weak hr hb
      obtain ⟨ys, hys, hlen, h1, hc⟩ := rd_mem hbr hcs
      have h2 : VRL w' (Forb F B) BM.none l ys := toVs_rb hf hl hys
      have hll : l.length = len * sz := by have a := h2.length; have b := hys.length; omega
      refine mkL_ok ?_
      simp only [VR]
      refine ⟨_, cap, ys, by rw [chunks_len], by rw [chunks_len]; exact hcap, chunks_row hll, ?_, h1, .inr ⟨_, rfl, ?_, hc⟩⟩
      · rw [VRR.flat, chunks_flat hll]
        exact h2
      · rintro (hF | hO)
        · exact hR1.nf b g ver c hB hF
        · exact (hE.keep g (own_lt hR hO) none_own).2 ⟨b, ver, c, hB⟩
  | _ => exact plain_rb (by simpa only [freshR] using hf) h hr
theorem vcall_ok (hC : FunOk P call) {fr : Bool} {f : FuncId} {args : List AV} {H H' : List Blk} {r : AV} (hfr : fr = false → args.all (pv depth) = true) (h : vcall fr call f args H = some (r, H')) : H' = H ∧ Enter P f ∧ PureOk P f args H r := by
  unfold vcall at h
  split at h <;> try (cases h; done)
  rename_i as has
  split at h <;> try (cases h; done)
  rename_i r0 H1 hcall
  split at h <;> try (cases h; done)
  rename_i hcond
  obtain ⟨y, hy, e⟩ := Option.map_eq_some_iff.1 h
  cases e
  refine ⟨rfl, (hC _ _ _ _ _ hcall).1, fun w F B vs Hb hR hRw hv => ?_⟩
  cases fr with
  | false =>
    have hpv := hfr rfl
    have hF : ∀ i, Forb F B i → i < w.heap.size := fun i hi => hi.elim (hR.lt i) (own_lt hR)
    have hv0 := (amap_sound (w := w) (Fb := Forb F B) (Fb' := Forb F B) (B := BM.none) (B' := BM.none) (fun x y v hx hv => rb_none hx hv) has (pvl_sound depth args vs hpv hv)).1
    have hv1 : VRL w (Forb (Forb F B) BM.none) BM.none as vs := VRL.mono (fun a y hf hc => ⟨hc, fun h => h.elim hf none_own⟩) _ _ _ (BLe.refl _) _ hv0
    refine ((hC f as [] r0 H1 hcall).2 w (Forb F B) BM.none vs (HR.empty hF) (fun b hb => by cases hb) hv1).mono ?_
    rintro e w' ⟨v, B1, rfl, hE, hR1, _, hr⟩
    obtain ⟨hE', hR'⟩ := ext_of_empty hR hE
    have h3 := rb_sound hR1.weak hR1.nf depth r0 _ v hy hr
    exact ⟨v, rfl, hE', hR', VR.mono (fun a y hf hc => ⟨hc, hf⟩) _ _ _ (BLe.none B) _ h3⟩
  | true =>
    have hv1 : VRL w (Forb F BM.none) BM.none as vs := VRL.mono (fun a y hf hc => ⟨hc, fun h => h.elim hf none_own⟩) _ _ _ (BLe.refl _) _ (amap_sound (fun x y v hx hv => rb_sound hRw hR.nf depth x y v hx hv) has hv).1
    refine ((hC f as [] _ H1 hcall).2 w F BM.none vs (HR.empty hR.lt) (fun b hb => by cases hb) hv1).mono ?_
    rintro e w' ⟨v, B1, rfl, hE, hR1, _, hr⟩
    obtain ⟨hE', hR'⟩ := ext_of_empty hR hE
    exact ⟨v, rfl, hE', hR', fresh_ok hR hE hR1 (by simpa using hcond) hy hr⟩
theorem acall_cases (hC : FunOk P call) {strict : Bool} {f : FuncId} {args : List AV} {H H' : List Blk} {r : AV} (h : acall mode strict call f args H = some (r, H')) :
    (call f args H = some (r, H') ∧ (strict = true → mode f = 0)) ∨ (H' = H ∧ Enter P f ∧ PureOk P f args H r) := by
  unfold acall at h
  split at h
  · rename_i hm
    exact .inl ⟨h, fun _ => hm⟩
  · split at h
    · rename_i hpv
      exact .inr (vcall_ok hC (fun _ => hpv) h)
    · cases h
  · exact .inr (vcall_ok hC (fun e => by cases e) h)
theorem acall_pure (hC : FunOk P call) {f : FuncId} {args : List AV} {H H' : List Blk} {r : AV} (hp : pureOf mode f = true) (h : acall mode true call f args H = some (r, H')) : H' = H ∧ Enter P f ∧ PureOk P f args H r := by
  rcases acall_cases hC h with ⟨_, h1⟩ | h1
  · unfold pureOf at hp
    rw [h1 rfl] at hp
    simp at hp
  · exact h1
theorem acall_ok (hC : FunOk P call) (strict : Bool) : FunOk P (acall mode strict call) := by
  intro f args H r H' h
  rcases acall_cases hC h with ⟨h1, _⟩ | ⟨rfl, h0, h1⟩
  · exact hC f args H r H' h1
  · refine ⟨h0, fun w F B vs hR hF hv => ?_⟩
    refine (h1 w F B vs H' hR hR.weak hv).mono ?_
    rintro e w' ⟨v, rfl, hE, hR', hr⟩
    exact ⟨v, B, rfl, hE, hR', hF, hr⟩
end
end Go.Proofs.YtigfnhbbfbnicaaA
