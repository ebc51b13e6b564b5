/- A part of the proof of AdornAsks: functions of the program, run by the evaluator. -/

/- The abstract evaluator is right: slices of slices, lengths, tests against nil. -/
import Derived.Test.YtigfnhbbfbnicaaAvE
namespace Go.Proofs.YtigfnhbbfbnicaaA
open Go Go.RowKit
set_option linter.all false
set_option linter.unusedSectionVars false
set_option linter.constructorNameAsVariable false
set_option linter.unusedVariables false
set_option linter.unusedSimpArgs false
section
variable {P : Program} {w : World} {F : Nat → Prop} {B : BM} {H : List Blk} {a : Act} {ρ : Operand → AV}
theorem run_bound {k : IntKind} {n : Int} {y : Nat} {code : BoundsCode} (h : 0 ≤ n ∧ n ≤ y) : (Instr.sliceBound (.int k n) y code).run P w = .ok n.toNat w := by
  simp only [Instr.sliceBound, Sem.run_bind, run_asInt, Result.andThen_ok]
  rw [Sem.run_ite, if_pos h]
  rfl
theorem bnd_at (hρ : ∀ x, VR w (Forb F B) B (ρ x) (a.eval x)) {x : Option Operand} {d top n : Nat} (h : bnd (x.map ρ) d top = some n) :
    (x = none ∧ n = d) ∨ ∃ y k m, x = some y ∧ a.eval y = .int k m ∧ 0 ≤ m ∧ m ≤ top ∧ n = m.toNat := by
  cases x with
  | none => simp only [Option.map_none, bnd, Option.some.injEq] at h; exact .inl ⟨rfl, h.symm⟩
  | some y =>
    simp only [Option.map_some, bnd] at h
    split at h <;> try (cases h; done)
    rename_i m hm
    split at h <;> try (cases h; done)
    rename_i hc
    cases h
    obtain ⟨k, hk⟩ := aint_at (hρ y) hm
    exact .inr ⟨y, k, m, rfl, hk, hc.1, hc.2, rfl⟩
theorem bounds2 (hρ : ∀ x, VR w (Forb F B) B (ρ x) (a.eval x)) {lo hi : Option Operand} {len cap h l : Nat} {isS : Bool} (hl : len ≤ cap) (hh : bnd (hi.map ρ) len len = some h) (hlo : bnd (lo.map ρ) 0 h = some l) :
    (Instr.sliceBounds isS len cap (lo.map a.eval) (hi.map a.eval) none).run P w = .ok (l, h, cap) w ∧ l ≤ h ∧ h ≤ len := by
  unfold Instr.sliceBounds
  rcases bnd_at hρ hh with ⟨rfl, rfl⟩ | ⟨y, k, m, rfl, hy, h0, h1, rfl⟩ <;> rcases bnd_at hρ hlo with ⟨rfl, rfl⟩ | ⟨y', k', m', rfl, hy', h0', h1', rfl⟩
  · exact ⟨rfl, Nat.zero_le _, Nat.le_refl _⟩
  · refine ⟨?_, by omega, Nat.le_refl _⟩
    simp only [Option.map_none, Option.map_some, hy', Sem.run_bind, Sem.run_pure, Result.andThen_ok]
    rw [run_bound ⟨h0', h1'⟩]
    rfl
  · refine ⟨?_, Nat.zero_le _, by omega⟩
    simp only [Option.map_none, Option.map_some, hy, Sem.run_bind, Sem.run_pure, Result.andThen_ok]
    rw [run_bound ⟨h0, by omega⟩]
    rfl
  · refine ⟨?_, by omega, by omega⟩
    simp only [Option.map_none, Option.map_some, hy, hy', Sem.run_bind, Sem.run_pure, Result.andThen_ok]
    rw [run_bound ⟨h0, by omega⟩]
    simp only [Result.andThen_ok]
    rw [run_bound ⟨h0', h1'⟩]
    rfl
theorem bounds3 (hρ : ∀ x, VR w (Forb F B) B (ρ x) (a.eval x)) {lo hi : Option Operand} {m : Operand} {len cap d : Nat} (hm : aint (ρ m) = some 0) (hh : bnd (hi.map ρ) d 0 = some 0) (hs : hi.isSome = true) (hlo : bnd (lo.map ρ) 0 0 = some 0) :
    (Instr.sliceBounds true len cap (lo.map a.eval) (hi.map a.eval) (some (a.eval m))).run P w = .ok (0, 0, 0) w := by
  obtain ⟨km, hkm⟩ := aint_at (hρ m) hm
  have bz : ∀ (k : IntKind) (y : Nat) (c : BoundsCode), (Instr.sliceBound (.int k 0) y c).run P w = .ok 0 w := fun k y c => run_bound (n := 0) ⟨Int.le_refl _, by omega⟩
  unfold Instr.sliceBounds
  rcases bnd_at hρ hh with ⟨rfl, rfl⟩ | ⟨y, k, m', rfl, hy, h0, h1, e1⟩
  · cases hs
  · have : m' = 0 := by omega
    subst this
    rcases bnd_at hρ hlo with ⟨rfl, _⟩ | ⟨y', k', m', rfl, hy', h0', h1', e1'⟩
    · simp only [Option.map_some, Option.map_none, hkm, hy, Sem.run_bind, Sem.run_pure, Result.andThen_ok, bz]
    · have : m' = 0 := by omega
      subst this
      simp only [Option.map_some, hkm, hy, hy', Sem.run_bind, Sem.run_pure, Result.andThen_ok, bz]
theorem VR.empty {Fb : Nat → Prop} {s : Nat} {A : Option Addr} {cap : Nat} : VR w Fb B (.lst s []) (.slice A 0 cap) := by
  simp only [VR]
  exact ⟨A, cap, [], rfl, Nat.zero_le _, (fun _ h => by cases h), by simp only [VRR], (fun _ h => by cases h), .inl rfl⟩
theorem mkL_VR {w : World} {B : BM} {Fb : Nat → Prop} {s sz : Nat} {R : List (List AV)} {v : Value} (h : VR w Fb B (.lst s R) v) (hs : s = sz ∨ R = []) : VR w Fb B (mkL sz R) v := by
  cases R with
  | nil =>
    simp only [VR] at h
    obtain ⟨A, cap, ys, rfl, _⟩ := h
    exact VR.empty
  | cons r R => rcases hs with rfl | hs; exact h; cases hs
theorem szl_at {t : TypeId} (h : szl P t = true) : ∃ e s, P.underlying t = some (.slice e) ∧ szOf P e = some s := by
  unfold szl at h
  split at h
  · rename_i e he
    obtain ⟨s, hs⟩ := Option.isSome_iff_exists.1 h
    exact ⟨e, s, he, hs⟩
  · cases h
theorem op_slice (hH : HRw w F B H) (hρ : ∀ x, VR w (Forb F B) B (ρ x) (a.eval x)) {o : Oper} {t : TypeId} {y : Operand} {lo hi mx : Option Operand} (ho : o.op = .slice t y lo hi mx) {r : Res} (h : aop P H ρ o = some r) :
    ∃ x, r = .val x ∧ ValOk P w F B a o x := by
  simp only [aop, ho] at h
  have hy := hρ y
  split at h
  · rename_i sz rows e1
    rw [e1] at hy
    simp only [VR] at hy
    obtain ⟨A, cap, ys, hv, hcap, hrows, hvr, hM⟩ := hy
    split at h
    · rename_i m
      split at h <;> try (cases h; done)
      rename_i h1 h2 h3
      split at h <;> try (cases h; done)
      rename_i hc
      cases h
      simp only [Bool.and_eq_true] at hc
      obtain ⟨hs, hu⟩ := hc
      obtain ⟨e, s, hu, hsz⟩ := szl_at hu
      refine ⟨_, rfl, .slice A 0 0, ?_, by simp only [VR]; exact ⟨A, rfl⟩⟩
      simp only [execOp, ho, Instr.sliceAt, Instr.slice, Sem.run_bind, run_under hu, Result.andThen_ok, hv, Option.map_some, bounds3 hρ h1 h2 hs h3, run_szOf hsz, if_true, Nat.sub_self, Sem.run_pure]
    · split at h <;> try (cases h; done)
      rename_i e h' hu hh
      split at h <;> try (cases h; done)
      rename_i l s hl hs
      split at h <;> try (cases h; done)
      rename_i hss0
      have hss : s = sz ∨ rows = [] := by simpa using hss0
      have hrows : ∀ r ∈ rows, r.length = s := by
        rcases hss with e | e
        · subst e; exact hrows
        · subst e; intro r hr; cases hr
      cases h
      obtain ⟨hb, hlh, hhl⟩ := bounds2 (P := P) (isS := true) hρ hcap hh hl
      refine ⟨_, rfl, .slice (if cap = l then A else A.map (·.add (l * s))) (h' - l) (cap - l), ?_, ?_⟩
      · simp only [execOp, ho, Instr.sliceAt, Instr.slice, Sem.run_bind, run_under hu, Result.andThen_ok, hv, Option.map_none, hb, run_szOf hs, Sem.run_pure]
      · refine mkL_VR (s := s) ?_ (hss.imp id (fun e => by rw [e]; simp))
        simp only [VR]
        have hlen : ((rows.take h').drop l).length = h' - l := by simp; omega
        have hf := VRR.flat.1 hvr
        have hy1 : (ys.take (h' * s)).drop (l * s) = (ys.drop (l * s)).take ((h' - l) * s) := by
          rw [List.drop_take, ← Nat.sub_mul]
        refine ⟨_, cap - l, (ys.drop (l * s)).take ((h' - l) * s), by rw [hlen], by rw [hlen]; omega, fun r hr => hrows r (List.mem_of_mem_take (List.mem_of_mem_drop hr)), ?_, hM.sub _ _ (fun hne => ?_)⟩
        · rw [VRR.flat, flat_drop l (fun r hr => hrows r (List.mem_of_mem_take hr)), flat_take h' hrows, ← hy1]
          exact VRL.drop _ (VRL.take _ hf)
        · rw [if_neg]
          intro e
          apply hne
          have : h' - l = 0 := by omega
          rw [this]
          simp
  · rename_i b o1 len sz ver e1
    rw [e1] at hy
    split at h
    · rename_i m
      split at h <;> try (cases h; done)
      rename_i h1 h2 h3
      split at h <;> try (cases h; done)
      rename_i hc
      cases h
      simp only [Bool.and_eq_true] at hc
      obtain ⟨hs, hu⟩ := hc
      obtain ⟨e, s, hu, hsz⟩ := szl_at hu
      simp only [VR] at hy
      obtain ⟨A, cap, g, v', c, hv, _⟩ := hy
      refine ⟨_, rfl, .slice A 0 0, ?_, by simp only [VR]; exact ⟨A, rfl⟩⟩
      simp only [execOp, ho, Instr.sliceAt, Instr.slice, Sem.run_bind, run_under hu, Result.andThen_ok, hv, Option.map_some, bounds3 hρ h1 h2 hs h3, run_szOf hsz, if_true, Nat.sub_self, Sem.run_pure]
    · split at h <;> try (cases h; done)
      rename_i e h' blk hu hh hb
      split at h <;> try (cases h; done)
      rename_i l s hl hs
      split at h <;> try (cases h; done)
      rename_i hss
      subst hss
      cases h
      obtain ⟨g, cap, c, hv, hB, hcap, hcc, _⟩ := own_at hH hy hb
      obtain ⟨hb2, hlh, hhl⟩ := bounds2 (P := P) (isS := true) hρ hcap hh hl
      refine ⟨_, rfl, .slice (if cap = l then some ⟨g, o1 * s, none⟩ else (some (⟨g, o1 * s, none⟩ : Addr)).map (·.add (l * s))) (h' - l) (cap - l), ?_, ?_⟩
      · simp only [execOp, ho, Instr.sliceAt, Instr.slice, Sem.run_bind, run_under hu, Result.andThen_ok, hv, Option.map_none, hb2, run_szOf hs, Sem.run_pure]
      · by_cases hlt : l = h' ∧ l ≠ 0
        · rw [if_pos (by simpa using hlt)]
          obtain ⟨rfl, _⟩ := hlt
          rw [Nat.sub_self]
          exact VR.empty
        · rw [if_neg (by simpa using hlt)]
          simp only [VR]
          refine ⟨_, cap - l, g, ver, c, rfl, hB, Nat.le_refl _, fun _ => ⟨?_, by omega, fun n hn => by have := hcc n hn; omega⟩⟩
          by_cases h0 : l = 0
          · subst h0
            split <;> simp [Addr.add]
          · rw [if_neg (by omega)]
            simp only [Option.map_some, addr_add, Nat.add_mul]
  · rename_i b off ver e1
    rw [e1] at hy
    split at h <;> try (cases h; done)
    rename_i n e blk hu hb
    split at h <;> try (cases h; done)
    rename_i h' s hh hs
    split at h <;> try (cases h; done)
    rename_i l hl
    split at h <;> try (cases h; done)
    rename_i hc
    simp only [Bool.and_eq_true, decide_eq_true_eq, beq_iff_eq, Bool.not_eq_true'] at hc
    obtain ⟨⟨hpos, hmod⟩, hgrow⟩ := hc
    cases h
    obtain ⟨g, c, hv, hB, hbr⟩ := ptr_at hH hy hb
    obtain ⟨hb2, hlh, hhl⟩ := bounds2 (P := P) (isS := false) hρ (Nat.le_refl n) hh hl
    refine ⟨_, rfl, .slice (some (if n = l then ⟨g, off, none⟩ else (⟨g, off, none⟩ : Addr).add (l * s))) (h' - l) (n - l), ?_, ?_⟩
    · simp only [execOp, ho, Instr.sliceAt, Instr.sureAddr, Sem.run_bind, run_under hu, Result.andThen_ok, hv, Option.map_none, hb2, run_szOf hs, Sem.run_pure]
    · by_cases hlt : l = h'
      · rw [if_pos hlt]
        subst hlt
        rw [Nat.sub_self]
        exact VR.empty
      · rw [if_neg hlt]
        simp only [VR]
        refine ⟨_, n - l, g, ver, c, rfl, hB, Nat.le_refl _, fun _ => ⟨?_, by omega, fun m hm => ?_⟩⟩
        · rw [if_neg (by omega), addr_add, Nat.add_mul]
          have := Nat.div_add_mod off s
          rw [hmod, Nat.add_zero, Nat.mul_comm] at this
          rw [this]
        · obtain ⟨_, _, _, _, _, _, _, _, hg⟩ := hbr
          rw [(hg hgrow).1] at hm
          cases hm
  · exact ValOk.of_sop hρ h
end
end Go.Proofs.YtigfnhbbfbnicaaA
