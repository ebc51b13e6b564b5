/- A part of the proof of MagicAsks: functions of the program, run by the evaluator. -/

/- The abstract evaluator is right: append, clear, copy. -/
import Derived.Test.YtpgipdajinkdgaaGreatAvI
import Derived.Lib.AppendStr
import Derived.Lib.AppendZeros
namespace Go.Proofs.YtpgipdajinkdgaaGreatA
open Go Go.RowKit Go.Lib
set_option linter.all false
set_option linter.unusedSectionVars false
set_option linter.constructorNameAsVariable false
set_option linter.unusedVariables false
set_option linter.unusedSimpArgs false
section
variable {P : Program} (w : World)
theorem run_both (base : Nat) (t ty e : TypeId) (i : TypeInfo) (z : Value) (size bytes : Nat) (ht : P.underlying t = some (.slice e)) (hi : P.info? e = some i) (hz : i.zero = some z)
    (hsize : i.size = size) (hby : i.bytes = bytes) (hzs : z.cells.size = size) (hsz : 0 < size)
    (v : Value) (n : Nat) (xs : List Value) (hown : w.ownsRow base e size v n xs)
    (a : Addr) (m c : Nat) (news : List Value) (hl : news.length = m * size) (hnews : ∀ j u, news[j]? = some u → w.cell? (a.add j) = some u) (h1 : ∀ u ∈ news, u.oneCell' = true)
    (h63 : n + m ≤ maxLen) (hbytes : (n + m) * bytes ≤ 140737488355328) (hbase : base ≤ w.heap.size) :
    ∃ v' w', (Builtin.append_ #[t, t] ty #[v, .slice (some a) m c]).run P w = .ok v' w' ∧ w'.ownsRow base e size v' (n + m) (xs ++ news) ∧ w.grownBy w' v.ownBlock ∧
      (v'.ownBlock = v.ownBlock ∨ v'.ownBlock = some w.heap.size) ∧ w'.ownsRow base e size v n xs := by
  obtain ⟨v', w', hr, h2, h3, _, h5⟩ := run_append_own_at (P := P) w base t ty e i z size bytes ht hi hz hsize hby hzs hsz v n xs hown a m c news hl hnews h1 h63 hbytes hbase
  refine ⟨v', w', hr, h2, h3, h5, ?_⟩
  subst hsize
  subst hby
  rcases hown.2 with ⟨rfl, rfl⟩ | ⟨g, cap, cur, rfl, hbg, hg, hnc, hcm, hcs, htake⟩
  · exact ⟨hown.1, .inl ⟨rfl, rfl⟩⟩
  · by_cases hroom : n + m ≤ cap
    · have hfit : n * i.size + news.length ≤ cur.size := by rw [hl, hcs, ← Nat.add_mul]; exact Nat.mul_le_mul_right _ hroom
      have hr2 := run_append_room (P := P) w t ty e i ht hi g n cap cur hg a m c news hl hnews h1 hroom hfit
      have he := hr.symm.trans hr2
      injection he with _ he
      subst he
      refine ⟨hown.1, .inr ⟨g, cap, _, rfl, hbg, setRow_heap w g cur _ e _ hg, hnc, hcm, ?_, ?_⟩⟩
      · simp only [List.size_toArray, List.length_append, List.length_take, List.length_drop, Array.length_toList]
        omega
      · simp only [List.append_assoc]
        rw [htake, ← hown.1]
        exact List.take_left
    · have holds : ∀ j u, xs[j]? = some u → w.cell? ((⟨g, 0, none⟩ : Addr).add j) = some u := hown.cells (g := g) rfl
      have hr2 := run_append_grow (P := P) w t ty e i z ht hi hz ⟨g, 0, none⟩ n cap xs hown.1 holds a m c news hl hnews (by omega) (by simp only [maxLen] at h63; omega) (growslice_fits (by omega) hbytes)
      have he := hr.symm.trans hr2
      injection he with _ he
      subst he
      have hlt : g < w.heap.size := (Array.getElem?_eq_some_iff.1 hg).1
      exact ⟨hown.1, .inr ⟨g, cap, cur, rfl, hbg, (heap_alloc_old _ _ _ hlt).trans hg, hnc, hcm, hcs, htake⟩⟩
end
section
variable {P : Program} {w : World} {F : Nat → Prop} {B : BM} {H : List Blk} {a : Act} {ρ : Operand → AV}
theorem rd_memA {blk : Blk} {g k n : Nat} {cs : List AV} (h : BRelA w (Forb F B) B blk g) (hr : rdCells blk.cells k n = some cs) :
    ∃ ys, VRL w (Forb F B) B cs ys ∧ cs.length = n ∧ (∀ y ∈ ys, y.oneCell' = true) ∧ ∀ j y, ys[j]? = some y → w.cell? ((⟨g, k, none⟩ : Addr).add j) = some y := by
  obtain ⟨ys, hy, h1, hc⟩ := brel_cellsA h
  unfold rdCells at hr
  split at hr <;> try (cases hr; done)
  rename_i hle
  cases hr
  refine ⟨(ys.drop k).take n, VRL.take n (VRL.drop k hy), by simp; omega, fun y hy => h1 y (List.mem_of_mem_drop (List.mem_of_mem_take hy)), fun j y hj => ?_⟩
  rw [List.getElem?_take] at hj
  split at hj
  · rw [List.getElem?_drop] at hj
    have := hc _ _ hj
    rw [addr_add, Nat.zero_add] at this
    rwa [addr_add]
  · cases hj
theorem rd_mem {blk : Blk} {g k n : Nat} {c : Option Nat} {cs : List AV} (h : BRelC w (Forb F B) B blk g c) (hr : rdCells blk.cells k n = some cs) :
    ∃ ys, VRL w (Forb F B) B cs ys ∧ cs.length = n ∧ (∀ y ∈ ys, y.oneCell' = true) ∧ ∀ j y, ys[j]? = some y → w.cell? ((⟨g, k, none⟩ : Addr).add j) = some y := by
  obtain ⟨ys, hy, h1, hc⟩ := brel_cells h
  unfold rdCells at hr
  split at hr <;> try (cases hr; done)
  rename_i hle
  cases hr
  refine ⟨(ys.drop k).take n, VRL.take n (VRL.drop k hy), by simp; omega, fun y hy => h1 y (List.mem_of_mem_drop (List.mem_of_mem_take hy)), fun j y hj => ?_⟩
  rw [List.getElem?_take] at hj
  split at hj
  · rw [List.getElem?_drop] at hj
    have := hc _ _ hj
    rw [addr_add, Nat.zero_add] at this
    rwa [addr_add]
  · cases hj
theorem elems_at (hH : HRw w F B H) {x : AV} {v : Value} {s m : Nat} {cs : List AV} (h : VR w (Forb F B) B x v) (he : elems H x s = some (cs, m)) (hs : 0 < s) :
    ∃ A c ys, v = .slice A m c ∧ VRL w (Forb F B) B cs ys ∧ cs.length = m * s ∧ (0 < m → ∃ a, A = some a ∧ ∀ j y, ys[j]? = some y → w.cell? (a.add j) = some y) := by
  unfold elems at he
  split at he
  · rename_i A c
    cases he
    simp only [VR] at h
    exact ⟨A, c, [], h, by simp only [VRL], by simp, fun h => absurd h (Nat.lt_irrefl _)⟩
  · cases he
    simp only [VR] at h
    obtain ⟨A, h⟩ := h
    exact ⟨A, 0, [], h, by simp only [VRL], by simp, fun h => absurd h (Nat.lt_irrefl _)⟩
  · rename_i sz rows
    simp only [VR] at h
    obtain ⟨A, cap, ys, hv, _, hrows, hvr, hM⟩ := h
    split at he
    case isFalse =>
      split at he <;> try (cases he; done)
      rename_i hem
      cases he
      have : rows = [] := by simpa using hem
      subst this
      exact ⟨A, cap, [], hv, by simp only [VRL], by simp, fun h => absurd h (Nat.lt_irrefl _)⟩
    rename_i hss
    subst hss
    cases he
    have hf := VRR.flat.1 hvr
    have hfl := flat_len hrows
    refine ⟨A, cap, ys, hv, VRL.mono (fun a y hf hc => ⟨hc, hf⟩) _ _ _ (BLe.none B) _ hf, hfl, fun hm => ?_⟩
    rcases hM.2 with h0 | ⟨a0, e0, _, hc⟩
    · have h2 := hf.length
      rw [hfl, h0] at h2
      have := Nat.mul_le_mul hm hs
      simp at h2
      omega
    · exact ⟨a0, e0, hc⟩
  · rename_i b o len sz ver
    split at he <;> try (cases he; done)
    rename_i blk hb
    split at he <;> try (cases he; done)
    rename_i hss
    subst hss
    obtain ⟨l, hl, he⟩ := Option.map_eq_some_iff.1 he
    cases he
    obtain ⟨g, cap, c, hv, hB, _, _, hbr⟩ := own_at hH h hb
    obtain ⟨ys, hy, hlen, _, hc⟩ := rd_mem hbr hl
    exact ⟨_, cap, ys, hv, hy, hlen, fun _ => ⟨_, rfl, hc⟩⟩
  · cases he
theorem append_cap0 {t ty e : TypeId} {i : TypeInfo} {z : Value} (hu : P.underlying t = some (.slice e)) (hi : P.info? e = some i) (hz : i.zero = some z) {A : Option Addr} {a0 : Addr} {m c : Nat} (hm : 0 < m) (hb : m * i.bytes ≤ 140737488355328) (hmx : m ≤ maxLen) :
    (Builtin.append_ #[t, t] ty #[.slice A 0 0, .slice (some a0) m c]).run P w = (Builtin.append_ #[t, t] ty #[.slice none 0 0, .slice (some a0) m c]).run P w := by
  cases A with
  | none => rfl
  | some a1 =>
    have hcap : Builtin.nextslicecap (0 + m) 0 = m := by unfold Builtin.nextslicecap; rw [if_pos (by omega)]; omega
    have hsz : (sizeOf e).run P w = .ok i.size w := by simp [sizeOf, typeInfo, hi]
    have hmx' : m ≤ 9223372036854775807 := by unfold maxLen at hmx; omega
    have key : ∀ base : Option Addr, (Builtin.append_ #[t, t] ty #[.slice base 0 0, .slice (some a0) m c]).run P w = ((do
        let newCap ← choose (.appendCap (0 + m) 0 e)
        askRoom (newCap * (← typeInfo e).bytes)
        let old ← Builtin.firstCells i.size 0 (.slice base 0 0)
        let new ← Builtin.firstCells i.size m (.slice (some a0) m c)
        let rest := Builtin.zeroCells (← zeroValue e).cells (newCap - (0 + m))
        pure (.slice (some (← newRow e (old ++ new ++ rest))) (0 + m) newCap)) : Sem Value).run P w := by
      intro base
      simp only [Builtin.append_, List.getElem?_toArray, List.getElem?_cons_zero, List.getElem?_cons_succ, Sem.run_bind, run_under hu, Result.andThen_ok, hsz, Sem.run_pure]
      simp only [Bool.false_eq_true, if_false, Builtin.lenOf, Sem.run_bind, Sem.run_pure, Result.andThen_ok]
      rw [Sem.run_ite, if_neg (by omega)]
      simp only [Sem.run_bind, run_typeInfo hi, Result.andThen_ok]
      rw [Sem.run_ite, if_neg (by
        intro h
        have hI : ((0 + m : Nat) : Int) ≤ IntKind.i64.max := by
          have : IntKind.i64.max = 9223372036854775807 := by decide
          omega
        omega)]
      simp only [Sem.run_bind, run_typeInfo hi, Result.andThen_ok, hcap]
      rw [Sem.run_ite, if_neg (by omega)]
      simp only [Sem.run_bind, run_typeInfo hi, Result.andThen_ok, Bool.not_false, if_true, Sem.run_pure]
    rw [key (some a1), key none]
    have e0 : ∀ w, (Builtin.firstCells i.size 0 (.slice (some a1) 0 0)).run P w = .ok #[] w := fun w => by simp [Builtin.firstCells, loadCells, loadCellsFrom]
    have e1 : ∀ w, (Builtin.firstCells i.size 0 (.slice none 0 0)).run P w = .ok #[] w := fun w => rfl
    simp only [Sem.run_bind, e0, e1]
theorem append_zero {t ty e : TypeId} {i : TypeInfo} (hu : P.underlying t = some (.slice e)) (hi : P.info? e = some i) {A A' : Option Addr} {n cap c : Nat} (hn : n ≤ cap) :
    (Builtin.append_ #[t, t] ty #[.slice A n cap, .slice A' 0 c]).run P w = .ok (.slice A n cap) w := by
  have hsz : (sizeOf e).run P w = .ok i.size w := by simp [sizeOf, typeInfo, hi]
  simp only [Builtin.append_, List.getElem?_toArray, List.getElem?_cons_zero, List.getElem?_cons_succ, Sem.run_bind, run_under hu, Result.andThen_ok, hsz, Sem.run_pure]
  simp only [Bool.false_eq_true, if_false, Builtin.lenOf, Sem.run_bind, Sem.run_pure, Result.andThen_ok]
  rw [Sem.run_ite, if_pos (by omega)]
  have e0 : (Builtin.firstCells i.size 0 (.slice A' 0 c)).run P w = .ok #[] w := by cases A' <;> simp [Builtin.firstCells, loadCells, loadCellsFrom]
  simp only [Bool.not_false, if_true, Sem.run_bind, e0, Result.andThen_ok]
  cases A <;> simp [storeCells]
def ResOk (P : Program) (w : World) (F : Nat → Prop) (B : BM) (H : List Blk) (a : Act) (o : Oper) : Res → Prop
  | .val x => ValOk P w F B a o x
  | .new x blk => NewOk' P w F B H.length a o x blk ∨ AliOk P w F B H a o x blk
  | .upd x i blk => UpdOk P w F B H a o x i blk
theorem grow_ok {b g ver cap cap' g' N : Nat} {blk : Blk} {w' : World} {cur' : Array Value} {zs : List Value} {cells : List AV} (hR : HR w F B H) (hB : B b = some (g, ver, some cap)) (hk : H[b]? = some blk) (hver : blk.ver = ver) (hkd : blk.kind = .cells) (hgrow : blk.grow = true)
    (h1 : w'.os = w.os) (h2 : w'.tape = w.tape) (h3 : w'.output = w.output) (h0 : w.drawn ≤ w'.drawn) (h4 : w.heap.size ≤ w'.heap.size) (h5 : ∀ j, j < w.heap.size → j ≠ g → w'.heap[j]? = w.heap[j]?) (hg' : g' = g ∨ g' = w.heap.size)
    (hh : w'.heap[g']? = some (.cells cur' blk.elem (0, 0))) (hcs' : cur'.size = cap' * blk.sz) (hcm' : cap' ≤ maxLen) (hmc : N ≤ cap') (hct : cur'.toList.take (N * blk.sz) = zs)
    (hz : ∀ {B' : BM}, Ext w B w' B' → VRL w' (Forb F B') B' cells zs) (ho : ∀ y ∈ zs, y.oneCell' = true) (hgl : g < w.heap.size) :
    ∃ B', Ext w B w' B' ∧ HR w' F B' (H.set b { blk with ver := ver + 1, cells := cells }) ∧ VR w' (Forb F B') B' (.own b 0 N blk.sz (ver + 1)) (.slice (some ⟨g', 0, none⟩) N cap') ∧ (∀ b', B b' = none → B' b' = none) := by
  let B' : BM := fun b' => if b' = b then some (g', ver + 1, some cap') else B b'
  have hB'b : B' b = some (g', ver + 1, some cap') := by simp [B']
  have hB'o : ∀ b', b' ≠ b → B' b' = B b' := fun b' hne => by simp [B', hne]
  have hE : Ext w B w' B' := by
    refine ⟨h1, h2, h3, h4, h0, fun j hj hno => ⟨h5 j hj (fun e => hno ⟨b, ver, some cap, by rw [hB, e]⟩), ?_⟩, ?_⟩
    · rintro ⟨b', v', c', hb'⟩
      by_cases hbb : b' = b
      · subst hbb
        rw [hB'b] at hb'
        cases hb'
        rcases hg' with e | e
        · exact hno ⟨b', ver, some cap, by rw [hB, e]⟩
        · omega
      · rw [hB'o b' hbb] at hb'
        exact hno ⟨b', v', c', hb'⟩
    · intro b' g1 v1 c1 hb'
      by_cases hbb : b' = b
      · subst hbb
        rw [hB] at hb'
        cases hb'
        exact ⟨g', ver + 1, some cap', hB'b, by omega, fun h => by omega⟩
      · exact ⟨g1, v1, c1, by rw [hB'o b' hbb]; exact hb', Nat.le_refl _, fun _ => ⟨rfl, rfl⟩⟩
  have hno2 : ∀ b', ¬ Shared H b b' := fun b' hs => by
    rcases hs.kind hk with h | h
    · rw [hkd] at h; cases h
    · rw [hkd] at h; cases h
  refine ⟨B', hE, ⟨?_, ?_, ?_, fun j hj => Nat.lt_of_lt_of_le (hR.lt j hj) h4⟩, ?_, fun b' hb' => ?_⟩
  · intro b' g1 v1 c1 hb'
    by_cases hbb : b' = b
    · subst hbb
      rw [hB'b] at hb'
      cases hb'
      refine ⟨_, by rw [List.getElem?_set_self (by rcases Nat.lt_or_ge b' H.length with h' | h'; exact h'; rw [List.getElem?_eq_none h'] at hk; cases hk)], rfl, ?_⟩
      simp only [BRel, hkd]
      refine ⟨cur', zs, cur'.toList.drop (N * blk.sz), hh, ?_, hz hE, ho, fun _ => ⟨cap', rfl, hcs', hcm'⟩, fun h => ?_⟩
      · rw [← hct, List.take_append_drop]
      · rw [hgrow] at h; cases h
    · rw [hB'o b' hbb] at hb'
      obtain ⟨blk1, k1, k2, p1⟩ := hR.at_ b' g1 v1 c1 hb'
      have hne : g1 ≠ g := fun e => (hR.inj b' b g1 v1 ver c1 (some cap) hb' (by rw [e]; exact hB)).elim hbb fun h => hno2 b' h.symm
      exact ⟨blk1, by rw [List.getElem?_set_ne (Ne.symm hbb)]; exact k1, k2, p1.ext hE (h5 g1 p1.lt hne)⟩
  · intro b1 b2 g1 v1 v2 c1 c2 k1 k2
    have hlt : ∀ b3 g3 v3 c3, B b3 = some (g3, v3, c3) → g3 < w.heap.size := fun b3 g3 v3 c3 h3 => by
      obtain ⟨_, _, _, p1⟩ := hR.at_ b3 g3 v3 c3 h3
      exact p1.lt
    by_cases e1 : b1 = b <;> by_cases e2 : b2 = b
    · exact .inl (by rw [e1, e2])
    · subst e1
      rw [hB'b] at k1
      rw [hB'o b2 e2] at k2
      cases k1
      rcases hg' with e | e
      · exact (hR.inj b1 b2 g ver v2 (some cap) c2 hB (by rw [← e]; exact k2)).elim .inl fun h => absurd h (hno2 b2)
      · have := hlt b2 _ _ _ k2; omega
    · subst e2
      rw [hB'b] at k2
      rw [hB'o b1 e1] at k1
      cases k2
      rcases hg' with e | e
      · exact (hR.inj b1 b2 g v1 ver c1 (some cap) (by rw [← e]; exact k1) hB).elim .inl fun h => absurd h.symm (hno2 b1)
      · have := hlt b1 _ _ _ k1; omega
    · rw [hB'o b1 e1] at k1
      rw [hB'o b2 e2] at k2
      exact (hR.inj b1 b2 g1 v1 v2 c1 c2 k1 k2).imp id fun h => h.mono (List.getElem?_set_ne (Ne.symm e1)) (List.getElem?_set_ne (Ne.symm e2))
  · intro b' g1 v1 c1 hb' hF
    by_cases hbb : b' = b
    · subst hbb
      rw [hB'b] at hb'
      cases hb'
      rcases hg' with e | e
      · rw [e] at hF; exact hR.nf b' g ver (some cap) hB hF
      · have := hR.lt _ hF; omega
    · rw [hB'o b' hbb] at hb'
      exact hR.nf b' g1 v1 c1 hb' hF
  · simp only [VR]
    exact ⟨_, cap', g', ver + 1, some cap', rfl, hB'b, Nat.le_refl _, fun _ => ⟨by simp, hmc, fun n hn => by cases hn; rfl⟩⟩
  · rw [hB'o b' (fun e => by rw [e, hB] at hb'; cases hb')]; exact hb'
theorem grow_app {b g ver cap cap' g' N : Nat} {blk : Blk} {w' : World} {cur' : Array Value} {zs : List Value} {cells : List AV} (hR : HR w F B H) (hB : B b = some (g, ver, some cap)) (hk : H[b]? = some blk) (hver : blk.ver = ver) (hkd : blk.kind = .app) (hcl : blk.cells.length ≤ cells.length) (hold : ∃ cur2, w'.heap[g]? = some (.cells cur2 blk.elem (0, 0)) ∧ ∀ cur, w.heap[g]? = some (.cells cur blk.elem (0, 0)) → cur2.toList.take blk.cells.length = cur.toList.take blk.cells.length) (hgrow : blk.grow = true)
    (h1 : w'.os = w.os) (h2 : w'.tape = w.tape) (h3 : w'.output = w.output) (h0 : w.drawn ≤ w'.drawn) (h4 : w.heap.size ≤ w'.heap.size) (h5 : ∀ j, j < w.heap.size → j ≠ g → w'.heap[j]? = w.heap[j]?) (hg' : g' = g ∨ g' = w.heap.size)
    (hh : w'.heap[g']? = some (.cells cur' blk.elem (0, 0))) (hcs' : cur'.size = cap' * blk.sz) (hcm' : cap' ≤ maxLen) (hmc : N ≤ cap') (hct : cur'.toList.take (N * blk.sz) = zs)
    (hz : ∀ {B' : BM}, Ext w B w' B' → VRL w' (Forb F B') B' cells zs) (ho : ∀ y ∈ zs, y.oneCell' = true) (hgl : g < w.heap.size) :
    ∃ B', Ext w B w' B' ∧ HR w' F B' (H.set b { blk with ver := ver + 1, cells := cells }) ∧ VR w' (Forb F B') B' (.own b 0 N blk.sz (ver + 1)) (.slice (some ⟨g', 0, none⟩) N cap') ∧ (∀ b', B b' = none → B' b' = none) := by
  let B' : BM := fun b' => if b' = b then some (g', ver + 1, some cap') else B b'
  have hB'b : B' b = some (g', ver + 1, some cap') := by simp [B']
  have hB'o : ∀ b', b' ≠ b → B' b' = B b' := fun b' hne => by simp [B', hne]
  have hE : Ext w B w' B' := by
    refine ⟨h1, h2, h3, h4, h0, fun j hj hno => ⟨h5 j hj (fun e => hno ⟨b, ver, some cap, by rw [hB, e]⟩), ?_⟩, ?_⟩
    · rintro ⟨b', v', c', hb'⟩
      by_cases hbb : b' = b
      · subst hbb
        rw [hB'b] at hb'
        cases hb'
        rcases hg' with e | e
        · exact hno ⟨b', ver, some cap, by rw [hB, e]⟩
        · omega
      · rw [hB'o b' hbb] at hb'
        exact hno ⟨b', v', c', hb'⟩
    · intro b' g1 v1 c1 hb'
      by_cases hbb : b' = b
      · subst hbb
        rw [hB] at hb'
        cases hb'
        exact ⟨g', ver + 1, some cap', hB'b, by omega, fun h => by omega⟩
      · exact ⟨g1, v1, c1, by rw [hB'o b' hbb]; exact hb', Nat.le_refl _, fun _ => ⟨rfl, rfl⟩⟩
  have hsh : ∀ b' v1 c1 blk1, b' ≠ b → B b' = some (g, v1, c1) → H[b']? = some blk1 → blk1.kind = .ali ∧ blk1.cells.length ≤ blk.cells.length := fun b' v1 c1 blk1 hbb hb' k1 => by
    rcases hR.inj b' b g v1 ver c1 (some cap) hb' hB with h | ⟨x, y, x1, y1, h⟩
    · exact absurd h hbb
    · rw [k1] at x1
      rw [hk] at y1
      cases x1
      cases y1
      rcases h with h | h | h
      · rw [hkd] at h; exact absurd h.2 (by simp)
      · rw [hkd] at h; exact absurd h.2.1 (by simp)
      · exact ⟨h.1, h.2.2⟩
  have hbl : b < H.length := by rcases Nat.lt_or_ge b H.length with h' | h'; exact h'; rw [List.getElem?_eq_none h'] at hk; cases hk
  have hnew : ∀ b', b' ≠ b → (∃ v1 c1, B b' = some (g, v1, c1)) → Shared (H.set b { blk with ver := ver + 1, cells := cells }) b b' := fun b' hbb ⟨v1, c1, hb'⟩ => by
    obtain ⟨blk1, k1, _⟩ := hR.at_ b' g v1 c1 hb'
    obtain ⟨q1, q2⟩ := hsh b' v1 c1 blk1 hbb hb' k1
    exact ⟨{ blk with ver := ver + 1, cells := cells }, blk1, by rw [List.getElem?_set_self hbl], by rw [List.getElem?_set_ne (Ne.symm hbb)]; exact k1, .inr (.inl ⟨hkd, q1, Nat.le_trans q2 hcl⟩)⟩
  refine ⟨B', hE, ⟨?_, ?_, ?_, fun j hj => Nat.lt_of_lt_of_le (hR.lt j hj) h4⟩, ?_, fun b' hb' => ?_⟩
  · intro b' g1 v1 c1 hb'
    by_cases hbb : b' = b
    · subst hbb
      rw [hB'b] at hb'
      cases hb'
      refine ⟨_, by rw [List.getElem?_set_self (by rcases Nat.lt_or_ge b' H.length with h' | h'; exact h'; rw [List.getElem?_eq_none h'] at hk; cases hk)], rfl, ?_⟩
      simp only [BRel, hkd]
      refine ⟨cur', zs, cur'.toList.drop (N * blk.sz), hh, ?_, hz hE, ho, fun _ => ⟨cap', rfl, hcs', hcm'⟩, fun h => ?_⟩
      · rw [← hct, List.take_append_drop]
      · rw [hgrow] at h; cases h
    · rw [hB'o b' hbb] at hb'
      obtain ⟨blk1, k1, k2, p1⟩ := hR.at_ b' g1 v1 c1 hb'
      by_cases hgg : g1 = g
      · subst hgg
        obtain ⟨hka, hcle⟩ := hsh b' v1 c1 blk1 hbb hb' k1
        refine ⟨blk1, by rw [List.getElem?_set_ne (Ne.symm hbb)]; exact k1, k2, ?_⟩
        simp only [BRel, hka] at p1 ⊢
        obtain ⟨cur1, ys1, rest1, m1, m2, m3, m4⟩ := p1
        obtain ⟨blkb, kb1, _, pb⟩ := hR.at_ b g1 ver (some cap) hB
        rw [hk] at kb1
        cases kb1
        simp only [BRel, hkd] at pb
        obtain ⟨cur0, ys0, rest0, n1, n2, n3, _⟩ := pb
        rw [m1] at n1
        injection n1 with n1
        injection n1 with n1a n1b
        obtain ⟨cur2, o1, o2⟩ := hold
        have o3 := o2 cur1 (by rw [m1, n1b])
        have hl1 := m3.length
        have hl0 := n3.length
        refine ⟨cur2, ys1, cur2.toList.drop ys1.length, by rw [o1, n1b], ?_, m3.ext hE, m4⟩
        have o4 := congrArg (List.take ys1.length) o3
        rw [List.take_take, List.take_take, Nat.min_eq_left (by omega), m2, List.take_left' rfl] at o4
        rw [← o4]
        conv => lhs; rw [← List.take_append_drop ys1.length cur2.toList]
        rw [o4]
      · exact ⟨blk1, by rw [List.getElem?_set_ne (Ne.symm hbb)]; exact k1, k2, p1.ext hE (h5 g1 p1.lt hgg)⟩
  · intro b1 b2 g1 v1 v2 c1 c2 k1 k2
    have hlt : ∀ b3 g3 v3 c3, B b3 = some (g3, v3, c3) → g3 < w.heap.size := fun b3 g3 v3 c3 h3 => by
      obtain ⟨_, _, _, p1⟩ := hR.at_ b3 g3 v3 c3 h3
      exact p1.lt
    by_cases e1 : b1 = b <;> by_cases e2 : b2 = b
    · exact .inl (by rw [e1, e2])
    · subst e1
      rw [hB'b] at k1
      rw [hB'o b2 e2] at k2
      cases k1
      rcases hg' with e | e
      · exact .inr (hnew b2 e2 ⟨v2, c2, by rw [← e]; exact k2⟩)
      · have := hlt b2 _ _ _ k2; omega
    · subst e2
      rw [hB'b] at k2
      rw [hB'o b1 e1] at k1
      cases k2
      rcases hg' with e | e
      · exact .inr (hnew b1 e1 ⟨v1, c1, by rw [← e]; exact k1⟩).symm
      · have := hlt b1 _ _ _ k1; omega
    · rw [hB'o b1 e1] at k1
      rw [hB'o b2 e2] at k2
      exact (hR.inj b1 b2 g1 v1 v2 c1 c2 k1 k2).imp id fun h => h.mono (List.getElem?_set_ne (Ne.symm e1)) (List.getElem?_set_ne (Ne.symm e2))
  · intro b' g1 v1 c1 hb' hF
    by_cases hbb : b' = b
    · subst hbb
      rw [hB'b] at hb'
      cases hb'
      rcases hg' with e | e
      · rw [e] at hF; exact hR.nf b' g ver (some cap) hB hF
      · have := hR.lt _ hF; omega
    · rw [hB'o b' hbb] at hb'
      exact hR.nf b' g1 v1 c1 hb' hF
  · simp only [VR]
    exact ⟨_, cap', g', ver + 1, some cap', rfl, hB'b, Nat.le_refl _, fun _ => ⟨by simp, hmc, fun n hn => by cases hn; rfl⟩⟩
  · rw [hB'o b' (fun e => by rw [e, hB] at hb'; cases hb')]; exact hb'
theorem append_nil_str {t u ty e : TypeId} {i : TypeInfo} {z : Value} (ht : P.underlying t = some (.slice e)) (hu : P.underlying u = some .string) (hi : P.info? e = some i) (hz : i.zero = some z) (s : ByteArray) (h0 : 0 < s.size) (hb : i.bytes = 1) (h63 : s.size ≤ 140737488355328) :
    (Builtin.append_ #[t, u] ty #[.slice none 0 0, .string s]).run P w =
      .ok (.slice (some ⟨w.heap.size, 0, none⟩) s.size (grownCap w s.size 0 e)) (w.drew.alloc (.cells ((strCells s).toArray ++ Builtin.zeroCells z.cells (grownCap w s.size 0 e - s.size)) e)) := by
  have hn : ¬ (s.size = 0) := by omega
  have h63' : ¬ (9223372036854775807 < (s.size : Int)) := by omega
  have h48' : ¬ (281474976710656 < Builtin.nextslicecap s.size 0 * i.bytes) := by rw [nextslicecap_zero h0, hb]; omega
  have hf := run_firstCells_string (P := P) w.drew i.size s
  simp [Builtin.append_, run_underlying ht, run_underlying hu, sizeOf, typeInfo, zeroValue, hi, hz, Builtin.lenOf, hn, h63', h48', Question.forced, hf, run_firstCells_none, newRow, grownCap]
theorem strCells_av (s : ByteArray) : (s.data.toList.map fun c => AV.sc (.int .u8 c.toNat)) = (strCells s).map AV.sc := by
  simp [strCells]
theorem op_append2 (hH : HRw w F B H) (hρ : ∀ x, VR w (Forb F B) B (ρ x) (a.eval x)) {o : Oper} {s x : Operand} {t u : TypeId} (hrun : ∀ v w', (Builtin.append_ #[t, u] o.type #[a.eval s, a.eval x]).run P w = .ok v w' → (execOp a.eval o).run P w = .ok (.value v) w') {r : Res} (h : aappend2 P H t u (ρ s) (ρ x) = some r) : ResOk P w F B H a o r := by
  unfold aappend2 at h
  have hx := hρ x
  have hs := hρ s
  split at h <;> try (cases h; done)
  · rename_i e hu hu2
    split at h <;> try (cases h; done)
    rename_i i str hi e1
    rw [e1] at hx
    simp only [VR] at hx
    split at h <;> try (cases h; done)
    rename_i hz
    split at h <;> try (cases h; done)
    rename_i hc
    simp only [Bool.and_eq_true, beq_iff_eq] at hc
    obtain ⟨hs1, hb1⟩ := hc
    split at h
    · rename_i b o1 len sz ver e2
      split at h <;> try (cases h; done)
      rename_i blk hb
      split at h <;> try (cases h; done)
      rename_i hcond
      simp only [Bool.and_eq_true, decide_eq_true_eq, beq_iff_eq] at hcond
      obtain ⟨⟨⟨⟨⟨⟨⟨ho1, hsz⟩, hbsz⟩, hgrow⟩, helem⟩, hle⟩, hmx⟩, hpos⟩ := hcond
      subst ho1 hsz
      cases h
      intro hR
      rw [e2] at hs
      obtain ⟨g, cap, cc, hv, hB, hcap, hcc, hbr⟩ := own_at hR.weak hs hb
      obtain ⟨hk, hver, hkd⟩ := blkAt_some hb
      obtain ⟨cur, ys0, rest, q1, q2, q3, q4, q5, q6⟩ := hbr
      obtain ⟨n0, rfl, hcs, hnm⟩ := q5 hgrow
      have hcn := hcc n0 rfl
      rw [Nat.add_zero] at hcn
      subst hcn
      rw [hbsz, Nat.mul_one] at hcs
      have hl0 := q3.length
      have hcl : cur.toList.length = cur.size := Array.length_toList
      rw [Nat.zero_mul] at hv
      have hlenC := strCells_length str
      have hcells : VRL w (Forb F B) B (blk.cells.take len ++ str.data.toList.map fun c => AV.sc (.int .u8 c.toNat)) (ys0.take len ++ strCells str) := VRL.append (VRL.take _ q3) (by rw [strCells_av]; exact VRL.sc _)
      have hones : ∀ y ∈ ys0.take len ++ strCells str, y.oneCell' = true := by
        intro y hy
        rcases List.mem_append.1 hy with hy | hy
        · exact q4 y (List.mem_of_mem_take hy)
        · exact strCells_oneCell str y hy
      have htake : cur.toList.take len = ys0.take len := by rw [q2, List.take_append_of_le_length (by omega)]
      by_cases hroom : len + str.size ≤ cap
      · have hr := run_append_room_string (P := P) w t u o.type e i hu hu2 hi hs1 g len cap cur (by rw [q1, helem]) str hroom (by omega)
        obtain ⟨cur', hcur'⟩ : ∃ c : Array Value, c = (cur.toList.take len ++ strCells str ++ cur.toList.drop (len + str.size)).toArray := ⟨_, rfl⟩
        have hset : w.setRow g cur' = setBlk w g cur' e := by
          unfold World.setRow setBlk
          congr 1
          apply Array.ext_getElem?
          intro k
          rw [Array.getElem?_modify, Array.getElem?_setIfInBounds]
          split
          · rename_i hk2
            subst hk2
            rw [q1, if_pos (lt_of_at q1), helem]
            rfl
          · rfl
        rw [← hcur', hset] at hr
        obtain ⟨B', hE, hR', hv', hno⟩ := grow_ok (cells := blk.cells.take len ++ str.data.toList.map fun c => AV.sc (.int .u8 c.toNat)) (zs := ys0.take len ++ strCells str) (w' := setBlk w g cur' e) (g' := g) (cap' := cap) (cur' := cur') (N := len + str.size) hR hB hk hver hkd hgrow rfl rfl rfl (Nat.le_refl _) (by rw [setBlk_size]; exact Nat.le_refl _) (fun j hj hne => setBlk_other (Ne.symm hne)) (.inl rfl) (by rw [helem]; exact setBlk_at (lt_of_at q1)) (by rw [hbsz, hcur']; simp [hlenC]; omega) hnm hroom (by
            rw [hbsz, hcur', Nat.mul_one]
            simp only [List.toList_toArray]
            rw [htake, List.take_left' (by simp [hlenC]; omega)]) (fun hE => hcells.ext hE) hones (lt_of_at q1)
        rw [hbsz] at hv'
        exact ⟨_, _, B', hrun _ _ (by rw [hv, hx]; exact hr), .inl ⟨_, rfl, hv'⟩, hE, hR', hno, _, hB⟩
      · have hcell : ∀ j v, (ys0.take len)[j]? = some v → w.cell? ((⟨g, 0, none⟩ : Addr).add j) = some v := by
          intro j v hj
          rw [addr_add]
          simp only [World.cell?, q1, Nat.zero_add]
          have : cur.toList[j]? = some v := by
            rw [q2, List.getElem?_append_left (by rw [List.getElem?_take] at hj; split at hj; rename_i hj2; omega; cases hj)]
            rw [List.getElem?_take] at hj
            split at hj
            · exact hj
            · cases hj
          simpa using this
        have hncap := nextslicecap_le (need := len + str.size) (old := cap) (by omega)
        have hr := run_append_grow_string (P := P) w t u o.type e i (.int .u8 0) hu hu2 hi hz ⟨g, 0, none⟩ len cap (ys0.take len) (by rw [hs1, List.length_take]; omega) hcell str (by omega) (by omega) (by rw [hb1]; omega)
        have hgc1 := grownCap_ge w (len + str.size) cap e
        have hgc2 := grownCap_le_maxLen w (len + str.size) cap e (by unfold maxLen; omega)
        obtain ⟨nc, hnc⟩ : ∃ nc, nc = grownCap w (len + str.size) cap e := ⟨_, rfl⟩
        rw [← hnc] at hr hgc1 hgc2
        obtain ⟨cur', hcur'⟩ : ∃ c : Array Value, c = ((ys0.take len).toArray ++ (strCells str).toArray ++ Builtin.zeroCells (Value.int .u8 0).cells (nc - (len + str.size))) := ⟨_, rfl⟩
        rw [← hcur'] at hr
        obtain ⟨B', hE, hR', hv', hno⟩ := grow_ok (cells := blk.cells.take len ++ str.data.toList.map fun c => AV.sc (.int .u8 c.toNat)) (zs := ys0.take len ++ strCells str) (w' := w.drew.alloc (.cells cur' e)) (g' := w.heap.size) (cap' := nc) (cur' := cur') (N := len + str.size) hR hB hk hver hkd hgrow rfl rfl rfl (Nat.le_succ _) (by simp) (fun j hj hne => heap_alloc_old w.drew _ _ hj) (.inr rfl) (by rw [helem]; exact heap_alloc_new w.drew _) (by
            rw [hbsz, hcur']
            simp only [Array.size_append, List.size_toArray, hlenC, List.length_take, size_zeroCells]
            have : (Value.int .u8 0).cells.size = 1 := rfl
            rw [this]
            omega) hgc2 hgc1 (by
            rw [hbsz, hcur', Nat.mul_one]
            simp only [Array.toList_append, List.toList_toArray]
            rw [List.take_left' (by simp [hlenC]; omega)]) (fun hE => hcells.ext hE) hones (lt_of_at q1)
        rw [hbsz] at hv'
        exact ⟨_, _, B', hrun _ _ (by rw [hv, hx]; exact hr), .inl ⟨_, rfl, hv'⟩, hE, hR', hno, _, hB⟩
    · rename_i e2
      split at h <;> try (cases h; done)
      rename_i hcond
      simp only [Bool.and_eq_true, decide_eq_true_eq] at hcond
      cases h
      rw [e2] at hs
      simp only [VR] at hs
      have hr := append_nil_str (P := P) (w := w) (ty := o.type) hu hu2 hi hz str hcond.2 hb1 hcond.1
      have hgc1 := grownCap_ge w str.size 0 e
      have hgc2 := grownCap_le_maxLen w str.size 0 e (by unfold maxLen; omega)
      obtain ⟨nc, hnc⟩ : ∃ nc, nc = grownCap w str.size 0 e := ⟨_, rfl⟩
      rw [← hnc] at hr hgc1 hgc2
      refine Or.inl (NewOk.any ?_)
      refine ⟨_, w.drew.alloc (.cells ((strCells str).toArray ++ Builtin.zeroCells (Value.int .u8 0).cells (nc - str.size)) e), (strCells str).toArray ++ Builtin.zeroCells (Value.int .u8 0).cells (nc - str.size), strCells str, (Builtin.zeroCells (Value.int .u8 0).cells (nc - str.size)).toList, some nc, hrun _ _ (by rw [hs, hx]; exact hr), rfl, rfl, rfl, by simp, fun j hj => heap_alloc_old w.drew _ _ hj, heap_alloc_new w.drew _, by simp, by rw [strCells_av]; exact VRL.sc _, strCells_oneCell str, fun _ => ⟨nc, rfl, ?_, hgc2⟩, (fun h => by cases h), rfl, rfl, fun w2 Fb B' hB => ?_⟩
      · simp only [Array.size_append, List.size_toArray, strCells_length, size_zeroCells]
        have : (Value.int .u8 0).cells.size = 1 := rfl
        rw [this]
        omega
      · simp only [VR]
        exact ⟨_, nc, _, 0, some nc, rfl, hB, Nat.le_refl _, fun _ => ⟨by simp, hgc1, fun n hn => by cases hn; rfl⟩⟩
    · cases h
  · rename_i e k hu hu2
    split at h <;> try (cases h; done)
    rename_i i n hi hn e2
    split at h <;> try (cases h; done)
    rename_i zv hz
    split at h <;> try (cases h; done)
    rename_i hcond
    simp only [Bool.and_eq_true, decide_eq_true_eq, beq_iff_eq] at hcond
    obtain ⟨⟨⟨⟨⟨hpos, hzs⟩, hone⟩, h0⟩, hby⟩, hmx⟩ := hcond
    cases h
    obtain ⟨kk, hk⟩ := aint_at hx hn
    obtain ⟨m, rfl⟩ : ∃ m : Nat, n = m := ⟨n.toNat, by omega⟩
    simp only [Int.toNat_natCast] at hby hmx ⊢
    rw [e2] at hs
    simp only [VR] at hs
    have hr := run_append_nil_zeros (P := P) w t u o.type e i zv kk k hu hu2 hi hz m (by omega) hpos (by unfold maxLen at hmx; omega) (by omega)
    have hgc1 := grownCap_ge w m 0 e
    have hgc2 := grownCap_le_maxLen w m 0 e hmx
    obtain ⟨nc, hnc⟩ : ∃ nc, nc = grownCap w m 0 e := ⟨_, rfl⟩
    rw [← hnc] at hr hgc1 hgc2
    have hzl : (Builtin.zeroCells zv.cells m).toList = (List.replicate m zv.cells.toList).flatten := zeros_list zv.cells (by omega) m
    refine Or.inl (NewOk.any ?_)
    refine ⟨_, w.drew.alloc (.cells (Builtin.zeroCells zv.cells m ++ Builtin.zeroCells zv.cells (nc - m)) e), Builtin.zeroCells zv.cells m ++ Builtin.zeroCells zv.cells (nc - m), (List.replicate m zv.cells.toList).flatten, (Builtin.zeroCells zv.cells (nc - m)).toList, some nc, hrun _ _ (by rw [hs, hk]; exact hr), rfl, rfl, rfl, by simp, fun j hj => heap_alloc_old w.drew _ _ hj, heap_alloc_new w.drew _, by rw [Array.toList_append, hzl], by rw [zeros_av]; exact VRL.sc _, zeros_one hone m, fun _ => ⟨nc, rfl, ?_, hgc2⟩, (fun h => by cases h), rfl, rfl, fun w2 Fb B' hB => ?_⟩
    · simp only [Array.size_append, size_zeroCells, hzs]
      rw [← Nat.add_mul]
      congr 1
      omega
    · simp only [VR]
      exact ⟨_, nc, _, 0, some nc, rfl, hB, Nat.le_refl _, fun _ => ⟨by simp, hgc1, fun n hn => by cases hn; rfl⟩⟩
theorem op_append (hH : HRw w F B H) (hρ : ∀ x, VR w (Forb F B) B (ρ x) (a.eval x)) {o : Oper} {c : Call} (ho : o.op = .call c) (hc : c.callee = .builtin .append) {r : Res} (h : aop P H ρ o = some r) : ResOk P w F B H a o r := by
  simp only [aop, ho, hc] at h
  split at h <;> try (cases h; done)
  rename_i s x t u hargs htys
  split at h
  case isFalse =>
    refine op_append2 hH hρ (fun v w' hr => ?_) h
    have ea : c.args = #[s, x] := by rw [← Array.toList_inj]; exact hargs
    have et : c.argTypes = #[t, u] := by rw [← Array.toList_inj]; exact htys
    obtain ⟨cs', hcs'⟩ := run_call (a := a) ho hc
    rw [hcs', ea, et]
    simp only [builtin, List.map_toArray, List.map_cons, List.map_nil, Sem.run_bind, hr, Result.andThen_ok, Sem.run_pure]
  rename_i htu
  subst htu
  unfold aappend at h
  split at h <;> try (cases h; done)
  rename_i e hu
  split at h <;> try (cases h; done)
  rename_i i hi
  split at h <;> try (cases h; done)
  rename_i zv hz
  split at h <;> try (cases h; done)
  rename_i hpz
  simp only [Bool.and_eq_true, decide_eq_true_eq, beq_iff_eq] at hpz
  obtain ⟨hpos, hzs⟩ := hpz
  split at h <;> try (cases h; done)
  rename_i cs m hel
  split at h <;> try (cases h; done)
  rename_i hone
  have ea : c.args = #[s, x] := by rw [← Array.toList_inj]; exact hargs
  have et : c.argTypes = #[t, t] := by rw [← Array.toList_inj]; exact htys
  obtain ⟨A, cp, ys, hvx, hys, hlen, hmem⟩ := elems_at hH (hρ x) hel hpos
  have hy1 := one_cell hys hone
  have hyl := hys.length
  have hrun : ∀ v w', (Builtin.append_ #[t, t] o.type #[a.eval s, a.eval x]).run P w = .ok v w' → (execOp a.eval o).run P w = .ok (.value v) w' := by
    intro v w' hr
    obtain ⟨cs', hcs'⟩ := run_call (a := a) ho hc
    rw [hcs', ea, et]
    simp only [builtin, List.map_toArray, List.map_cons, List.map_nil, Sem.run_bind, hr, Result.andThen_ok, Sem.run_pure]
  have hs := hρ s
  have zero_case : ∀ A n cap, a.eval s = .slice A n cap → n ≤ cap → m = 0 → ValOk P w F B a o (ρ s) := by
    intro A1 n cap e1 hn h0
    subst h0
    refine ⟨.slice A1 n cap, hrun _ _ ?_, by rw [← e1]; exact hs⟩
    rw [e1, hvx]
    exact append_zero hu hi hn
  -- a new row
  have new_case : ∀ A1, a.eval s = .slice A1 0 0 → m ≠ 0 → m * i.bytes ≤ 140737488355328 → m ≤ maxLen → NewOk P w F B H.length a o (.own H.length 0 m i.size 0) ⟨e, i.size, 0, true, cs, .cells⟩ := by
    intro A1 e1 h0 hb hmx
    obtain ⟨a0, rfl, hcell⟩ := hmem (by omega)
    obtain ⟨v', w', r1, ⟨r2a, r2b⟩, r3, r4, r5⟩ := run_append_own_at (P := P) w 0 t o.type e i zv i.size i.bytes hu hi hz rfl rfl hzs hpos (.slice none 0 0) 0 [] (World.ownsRow_nil w 0 e i.size) a0 m cp ys (by rw [hyl, hlen]) hcell hy1 (by omega) (by rw [Nat.zero_add]; exact hb) (Nat.zero_le _)
    rw [Nat.zero_add] at r2a r2b
    rw [List.nil_append] at r2a r2b
    rcases r2b with ⟨_, h00⟩ | ⟨g, cap, cur, rfl, _, hh, hmc, hcm, hcs, hct⟩
    · exact absurd h00 h0
    · have hg : g = w.heap.size := by
        rcases r5 with r5 | r5
        · simp [Value.ownBlock] at r5
        · simpa [Value.ownBlock] using r5
      subst hg
      refine ⟨_, w', cur, ys, cur.toList.drop (m * i.size), some cap, hrun _ _ (by rw [e1, hvx, append_cap0 hu hi hz (by omega) hb hmx]; exact r1), r3.os, r3.tape, r3.output, lt_of_at hh, fun j hj => r3.block j hj (by simp [Value.ownBlock]), hh, ?_, hys, hy1, fun _ => ⟨cap, rfl, hcs, hcm⟩, (fun h => by cases h), rfl, rfl, fun w2 Fb B' hB => ?_⟩
      · rw [← hct, List.take_append_drop]
      · simp only [VR]
        exact ⟨_, cap, _, 0, some cap, rfl, hB, Nat.le_refl _, fun _ => ⟨by simp, hmc, fun n hn => by cases hn; rfl⟩⟩
  split at h
  · rename_i b o1 len sz ver e1
    split at h
    · rename_i blk hb
      split at h <;> try (cases h; done)
      rename_i hcond
      simp only [Bool.and_eq_true, decide_eq_true_eq, beq_iff_eq] at hcond
      obtain ⟨⟨⟨⟨⟨⟨⟨ho1, hsz⟩, hbsz⟩, hgrow⟩, helem⟩, hfull⟩, hby⟩, hmx⟩ := hcond
      subst ho1 hsz
      rw [e1] at hs
      obtain ⟨g, cap, cc, hv, hB, hcap, hcc, hbr⟩ := own_at hH hs hb
      obtain ⟨hk, hver, hkd⟩ := blkAt_some hb
      by_cases h0 : m = 0
      · rw [if_pos h0] at h
        cases h
        exact zero_case _ _ _ hv hcap h0
      · rw [if_neg h0] at h
        cases h
        intro hR
        obtain ⟨a0, rfl, hcell⟩ := hmem (by omega)
        obtain ⟨cur, ys0, rest, q1, q2, q3, q4, q5, q6⟩ := hbr
        obtain ⟨n0, rfl, hcs, hnm⟩ := q5 hgrow
        have hcn := hcc n0 rfl
        rw [Nat.add_zero] at hcn
        subst hcn
        have hl0 := q3.length
        have hown : w.ownsRow 0 e i.size (a.eval s) len (ys0.take (len * i.size)) := by
          refine ⟨by rw [List.length_take]; omega, .inr ⟨g, cap, cur, by rw [hv, Nat.zero_mul], Nat.zero_le _, by rw [q1, helem], hcap, hnm, by rw [hcs, hbsz], ?_⟩⟩
          rw [q2, List.take_append_of_le_length (by omega)]
        obtain ⟨v', w', r1, ⟨r2a, r2b⟩, r3, r4, r5⟩ := run_append_own_at (P := P) w 0 t o.type e i zv i.size i.bytes hu hi hz rfl rfl hzs hpos (a.eval s) len (ys0.take (len * i.size)) hown a0 m cp ys (by rw [hyl, hlen]) hcell hy1 hmx hby (Nat.zero_le _)
        have hob : (a.eval s).ownBlock = some g := by rw [hv]; rfl
        rw [hob] at r3 r5
        rcases r2b with ⟨_, h00⟩ | ⟨g', cap', cur', rfl, _, hh, hmc, hcm', hcs', hct⟩
        · omega
        have hg' : g' = g ∨ g' = w.heap.size := by simpa [Value.ownBlock] using r5
        obtain ⟨B', hE, hR', hv', hno⟩ := grow_ok (cells := blk.cells.take (len * i.size) ++ cs) (zs := ys0.take (len * i.size) ++ ys) (w' := w') (g' := g') (cap' := cap') (cur' := cur') (N := len + m) hR hB hk hver hkd hgrow r3.os r3.tape r3.output (run_drawn _ r1) r3.size (fun j hj hne => r3.block j hj (fun e => hne (by injection e))) hg' (by rw [hh, helem]) (by rw [hcs', hbsz]) hcm' hmc (by rw [hbsz]; exact hct) (fun hE => VRL.append ((VRL.take _ q3).ext hE) (hys.ext hE)) (by
            intro y hy
            rcases List.mem_append.1 hy with hy | hy
            · exact q4 y (List.mem_of_mem_take hy)
            · exact hy1 y hy) (lt_of_at q1)
        rw [hbsz] at hv'
        exact ⟨_, w', B', hrun _ _ (by rw [hvx]; exact r1), .inl ⟨_, rfl, hv'⟩, hE, hR', hno, _, hB⟩
    · split at h <;> try (cases h; done)
      rename_i blk hb
      split at h <;> try (cases h; done)
      rename_i hcond
      simp only [Bool.and_eq_true, decide_eq_true_eq, beq_iff_eq] at hcond
      obtain ⟨⟨⟨⟨⟨⟨⟨ho1, hsz⟩, hbsz⟩, hgrow⟩, helem⟩, hfull⟩, hby⟩, hmx⟩ := hcond
      subst ho1 hsz
      rw [e1] at hs
      obtain ⟨g, cap, cc, hv, hB, hcap, hcc, hbr⟩ := own_atA hH hs hb
      obtain ⟨hk, hver, hkd⟩ := appAt_some hb
      by_cases h0 : m = 0
      · rw [if_pos h0] at h
        cases h
        exact zero_case _ _ _ hv hcap h0
      · rw [if_neg h0] at h
        cases h
        intro hR
        obtain ⟨a0, rfl, hcell⟩ := hmem (by omega)
        obtain ⟨cur, ys0, rest, q1, q2, q3, q4, q5, q6⟩ := hbr
        obtain ⟨n0, rfl, hcs, hnm⟩ := q5 hgrow
        have hcn := hcc n0 rfl
        rw [Nat.add_zero] at hcn
        subst hcn
        have hl0 := q3.length
        have hown : w.ownsRow 0 e i.size (a.eval s) len (ys0.take (len * i.size)) := by
          refine ⟨by rw [List.length_take]; omega, .inr ⟨g, cap, cur, by rw [hv, Nat.zero_mul], Nat.zero_le _, by rw [q1, helem], hcap, hnm, by rw [hcs, hbsz], ?_⟩⟩
          rw [q2, List.take_append_of_le_length (by omega)]
        obtain ⟨v', w', r1, ⟨r2a, r2b⟩, r3, r5, r6⟩ := run_both (P := P) w 0 t o.type e i zv i.size i.bytes hu hi hz rfl rfl hzs hpos (a.eval s) len (ys0.take (len * i.size)) hown a0 m cp ys (by rw [hyl, hlen]) hcell hy1 hmx hby (Nat.zero_le _)
        have hob : (a.eval s).ownBlock = some g := by rw [hv]; rfl
        rw [hob] at r3 r5
        rcases r2b with ⟨_, h00⟩ | ⟨g', cap', cur', rfl, _, hh, hmc, hcm', hcs', hct⟩
        · omega
        have hold : ∃ cur2, w'.heap[g]? = some (.cells cur2 blk.elem (0, 0)) ∧ ∀ cur, w.heap[g]? = some (.cells cur blk.elem (0, 0)) → cur2.toList.take blk.cells.length = cur.toList.take blk.cells.length := by
          rw [hv, Nat.zero_mul] at r6
          rcases r6.2 with ⟨z1, _⟩ | ⟨g2, cap2, cur2, z1, _, z2, _, _, _, z3⟩
          · cases z1
          · cases z1
            refine ⟨cur2, by rw [z2, helem], fun cur3 hc3 => ?_⟩
            rw [q1] at hc3
            cases hc3
            rw [← hfull, z3, q2, List.take_append_of_le_length (by omega)]
        have hg' : g' = g ∨ g' = w.heap.size := by simpa [Value.ownBlock] using r5
        have q3' : VRL w (Forb F B) B blk.cells (ys0.take (len * i.size)) := by
          have := VRL.take (len * i.size) q3
          rwa [List.take_of_length_le (by omega)] at this
        obtain ⟨B', hE, hR', hv', hno⟩ := grow_app (cells := blk.cells ++ cs) (zs := ys0.take (len * i.size) ++ ys) (w' := w') (g' := g') (cap' := cap') (cur' := cur') (N := len + m) hR hB hk hver hkd (by simp) hold hgrow r3.os r3.tape r3.output (run_drawn _ r1) r3.size (fun j hj hne => r3.block j hj (fun e => hne (by injection e))) hg' (by rw [hh, helem]) (by rw [hcs', hbsz]) hcm' hmc (by rw [hbsz]; exact hct) (fun hE => VRL.append (q3'.ext hE) (hys.ext hE)) (by
            intro y hy
            rcases List.mem_append.1 hy with hy | hy
            · exact q4 y (List.mem_of_mem_take hy)
            · exact hy1 y hy) (lt_of_at q1)
        rw [hbsz] at hv'
        exact ⟨_, w', B', hrun _ _ (by rw [hvx]; exact r1), .inl ⟨_, rfl, hv'⟩, hE, hR', hno, _, hB⟩
  · rename_i e1
    split at h <;> try (cases h; done)
    rename_i hcond
    simp only [Bool.and_eq_true, decide_eq_true_eq] at hcond
    rw [e1] at hs
    simp only [VR] at hs
    by_cases h0 : m = 0
    · rw [if_pos h0] at h
      cases h
      exact zero_case none 0 0 hs (Nat.le_refl _) h0
    · rw [if_neg h0] at h
      cases h
      exact .inl (new_case none hs h0 hcond.1 hcond.2).any
  · rename_i e1
    split at h <;> try (cases h; done)
    rename_i hcond
    simp only [Bool.and_eq_true, decide_eq_true_eq] at hcond
    have hs0 := hs
    rw [e1] at hs
    simp only [VR] at hs
    obtain ⟨A1, hs⟩ := hs
    by_cases h0 : m = 0
    · rw [if_pos h0] at h
      cases h
      exact zero_case A1 0 0 hs (Nat.le_refl _) h0
    · rw [if_neg h0] at h
      cases h
      exact .inl (new_case A1 hs h0 hcond.1 hcond.2).any
  · cases h
end
end Go.Proofs.YtpgipdajinkdgaaGreatA
