/- A part of the proof of MagicAsks: functions of the program, run by the evaluator. -/

/- The abstract evaluator is right: maps; conversions of pointers; strings over bytes. -/
import Derived.Test.YtpgipdajinkdgaaGreatAvJ
import Derived.Lib.UnsafeStr
import Derived.Lib.Builder
namespace Go.Proofs.YtpgipdajinkdgaaGreatA
open Go Go.RowKit
set_option linter.all false
set_option linter.unusedSectionVars false
set_option linter.constructorNameAsVariable false
set_option linter.unusedVariables false
set_option linter.unusedSimpArgs false
section
variable {P : Program} {w : World} {F : Nat → Prop} {B : BM} {H : List Blk} {a : Act} {ρ : Operand → AV}
theorem beq_bytes (a b : ByteArray) : (a == b) = true ↔ a = b := by
  constructor
  · intro h
    have h' : (a.data == b.data) = true := h
    exact ByteArray.ext (eq_of_beq h')
  · rintro rfl
    exact (beq_self_eq_true a.data : _)
theorem sameNow_same {kd : TypeDesc} {k k' : Value} (h : Instr.sameNow kd k k' = some true) : k' = k ∧ ∀ (P : Program) (w : World), (Instr.keyThatStays k' k).run P w = .ok k w := by
  unfold Instr.sameNow at h
  split at h
  · rename_i q j x j' y
    split at h
    · rename_i hj
      subst hj
      simp only [Option.some.injEq, beq_iff_eq] at h
      subst h
      exact ⟨rfl, fun P w => by simp [Instr.keyThatStays, Instr.sameBits]⟩
    · cases h
  · simp only [Option.some.injEq] at h
    cases (beq_bytes _ _).1 h
    exact ⟨rfl, fun P w => by simp [Instr.keyThatStays, Instr.sameBits, (beq_bytes _ _).2 rfl]⟩
  · simp only [Option.some.injEq, beq_iff_eq] at h
    subst h
    exact ⟨rfl, fun P w => by simp [Instr.keyThatStays, Instr.sameBits]⟩
  · cases h
theorem simple_under {t : TypeId} {kd : TypeDesc} (h : simpleKey P t = some kd) : P.underlying t = some kd ∧ ((∃ k, kd = .int k) ∨ kd = .string ∨ kd = .bool) := by
  unfold simpleKey at h
  split at h <;> try (cases h; done)
  · rename_i k hu; cases h; exact ⟨hu, .inl ⟨k, rfl⟩⟩
  · rename_i hu; cases h; exact ⟨hu, .inr (.inl rfl)⟩
  · rename_i hu; cases h; exact ⟨hu, .inr (.inr rfl)⟩
theorem run_checkKey {t : TypeId} {kd : TypeDesc} (h : simpleKey P t = some kd) (e : Bool) (k : Value) (w : World) : (Instr.checkKey e 10000 t k).run P w = .ok () w := by
  have key : ∀ n, (Instr.checkKey e (n + 1) t k).run P w = .ok () w := by
    intro n
    obtain ⟨hu, h⟩ := simple_under h
    rw [Instr.checkKey]
    simp only [Sem.run_bind, run_under hu, Result.andThen_ok]
    rcases h with ⟨q, rfl⟩ | rfl | rfl <;> rfl
  exact key 9999
theorem find_now {kd : TypeDesc} {k : Value} {Fb : Nat → Prop} : ∀ (kvs : List (Value × AV)) (es : List MapEntry) (i : Nat) (_ : es.length = kvs.length)
    (_ : ∀ (j : Nat) (e : MapEntry), es[j]? = some e → ∃ k x, kvs[j]? = some (k, x) ∧ e.key = k ∧ VR w Fb B x e.val) (r : Option (Nat × AV)) (_ : afind kd k kvs i = some r),
    (r = none ∧ Instr.findNow kd k es i = some none) ∨ ∃ n x e, r = some (i + n, x) ∧ es[n]? = some e ∧ Instr.findNow kd k es i = some (some (i + n, e.val)) ∧ kvs[n]? = some (e.key, x) ∧ VR w Fb B x e.val ∧ Instr.sameNow kd k e.key = some true
  | [], [], i, _, _, r, h => by simp only [afind, Option.some.injEq] at h; exact .inl ⟨h.symm, rfl⟩
  | [], e :: es, i, hl, _, r, h => by simp at hl
  | p :: kvs, [], i, hl, _, r, h => by simp at hl
  | (k', x) :: kvs, e :: es, i, hl, hr, r, h => by
    obtain ⟨k2, x2, h1, h2, h3⟩ := hr 0 e rfl
    simp only [List.getElem?_cons_zero, Option.some.injEq, Prod.mk.injEq] at h1
    obtain ⟨rfl, rfl⟩ := h1
    simp only [afind] at h
    simp only [Instr.findNow, h2]
    split at h
    · rename_i hs
      cases h
      rw [hs]
      exact .inr ⟨0, x, e, rfl, rfl, rfl, by simp [h2], h3, by rw [h2]; exact hs⟩
    · rename_i hs
      rw [hs]
      rcases find_now kvs es (i + 1) (by simpa using hl) (fun j e' he => by
        have := hr (j + 1) e' (by simpa using he)
        simpa using this) r h with ⟨q1, q2⟩ | ⟨n, x', e', q1, q2, q3, q4, q5, q6⟩
      · exact .inl ⟨q1, q2⟩
      · refine .inr ⟨n + 1, x', e', ?_, by simpa using q2, ?_, by simpa using q4, q5, q6⟩
        · rw [q1]; congr 2; omega
        · rw [q3, show i + 1 + n = i + (n + 1) by omega]
    · cases h
theorem run_findKey {t : TypeId} {kd : TypeDesc} {k : Value} {es : List MapEntry} {r : Option (Nat × Value)} (h : simpleKey P t = some kd) (hf : Instr.findNow kd k es 0 = some r) (w : World) : (Instr.findKey t k es).run P w = .ok r w := by
  obtain ⟨hu, _⟩ := simple_under h
  simp only [Instr.findKey, Sem.run_bind, run_under hu, Result.andThen_ok, hf, Sem.run_pure]
theorem akey_at {Fb : Nat → Prop} {x : AV} {v kv : Value} (h : VR w Fb B x v) (hk : akey x = some kv) : v = kv := by
  cases x <;> simp only [akey] at hk <;> try (cases hk; done)
  cases hk
  simp only [VR] at h
  exact h
theorem mapOf_at (hH : HRw w F B H) {x : AV} {v : Value} {kvs : List (Value × AV)} (h : VR w (Forb F B) B x v) (hm : mapOf H x = some kvs) :
    (v = .map none ∧ kvs = []) ∨ ∃ g es n, v = .map (some g) ∧ w.heap[g]? = some (.map es n) ∧ es.size = kvs.length ∧
      ∀ (i : Nat) (e : MapEntry), es[i]? = some e → e.born = i ∧ ∃ k x, kvs[i]? = some (k, x) ∧ e.key = k ∧ VR w (Forb F B) B x e.val := by
  unfold mapOf at hm
  split at hm
  · cases hm
    simp only [VR] at h
    exact .inl ⟨h, rfl⟩
  · obtain ⟨⟨blk, kvs'⟩, hq, rfl⟩ := Option.map_eq_some_iff.1 hm
    obtain ⟨g, es, hv, _, _, hg, hsz, he⟩ := map_at hH h hq
    exact .inr ⟨g, es, _, hv, hg, hsz, he⟩
  · cases hm
theorem op_makeMap (hρ : ∀ x, VR w (Forb F B) B (ρ x) (a.eval x)) {o : Oper} {t : TypeId} {q : Option Operand} (ho : o.op = .makeMap t q) {r : Res} (h : aop P H ρ o = some r) :
    ∃ x blk, r = .new x blk ∧ NewOk' P w F B H.length a o x blk := by
  simp only [aop, ho] at h
  split at h <;> try (cases h; done)
  rename_i kt et hu
  have hc : ∀ h, q = some h → (aint (ρ h)).isSome = true := by
    intro hint e
    subst e
    simp only at h
    split at h
    · assumption
    · cases h
  have h' : some (Res.new (.mp H.length 0) ⟨0, 0, 0, false, [], .map []⟩) = some r := by
    cases q with
    | none => simpa using h
    | some hint => simpa [hc hint rfl] using h
  cases h'
  clear h
  refine ⟨_, _, rfl, .map (some w.heap.size), w.alloc (.map #[] 0), none, ?_, rfl, rfl, rfl, by simp, fun i hi => heap_alloc_old _ _ _ hi, fun B' hE => ?_, rfl, fun w2 Fb B' hB => ?_⟩
  · simp only [execOp, ho]
    cases q with
    | none => simp only [Instr.makeMap, Option.map_none, Sem.run_bind, run_newObj, Result.andThen_ok, Sem.run_pure]; rfl
    | some hint =>
      obtain ⟨n, hn⟩ := Option.isSome_iff_exists.1 (hc hint rfl)
      obtain ⟨k, e1⟩ := aint_at (hρ hint) hn
      simp only [Instr.makeMap, Option.map_some, Sem.run_bind, run_under hu, Result.andThen_ok, e1, asInt, run_asInt, run_newObj, Sem.run_pure]
      rfl
  · simp only [BRel]
    exact ⟨#[], by rw [heap_alloc_new]; rfl, rfl, fun i e he => by simp at he⟩
  · simp only [VR]
    exact ⟨_, _, 0, none, rfl, hB, Nat.le_refl _, fun _ => rfl⟩
theorem op_lookup (hH : HRw w F B H) (hρ : ∀ x, VR w (Forb F B) B (ρ x) (a.eval x)) {o : Oper} {t : TypeId} {x k : Operand} {ok : Bool} (ho : o.op = .lookup t x k ok) {r : Res} (h : aop P H ρ o = some r) :
    ∃ x, r = .val x ∧ ValOk P w F B a o x := by
  simp only [aop, ho] at h
  split at h <;> try (cases h; done)
  rename_i kt et hu
  split at h <;> try (cases h; done)
  rename_i kd kvs kv i hkd hkvs hkv hi
  split at h <;> try (cases h; done)
  rename_i zv rr hz hfind
  cases h
  have e2 := akey_at (hρ k) hkv
  refine ⟨_, rfl, ?_⟩
  have hval : ∀ es : Array MapEntry, es.size = kvs.length → (∀ (i : Nat) (e : MapEntry), es[i]? = some e → e.born = i ∧ ∃ k x, kvs[i]? = some (k, x) ∧ e.key = k ∧ VR w (Forb F B) B x e.val) →
      ∃ fr, Instr.findNow kd kv es.toList 0 = some fr ∧ ((fr = none ∧ rr = none) ∨ ∃ n u x, fr = some (n, u) ∧ rr = some (n, x) ∧ VR w (Forb F B) B x u) := by
    intro es hsz he
    rcases find_now (w := w) (Fb := Forb F B) (B := B) kvs es.toList 0 (by rw [Array.length_toList, hsz]) (fun j e hj => (he j e (by rw [← Array.getElem?_toList]; exact hj)).2) rr hfind with ⟨q1, q2⟩ | ⟨n, x, e, q1, q2, q3, q4, q5, q6⟩
    · exact ⟨none, q2, .inl ⟨rfl, q1⟩⟩
    · exact ⟨_, q3, .inr ⟨_, _, x, rfl, q1, q5⟩⟩
  have fin : ∀ es : Array MapEntry, es.size = kvs.length → (∀ (i : Nat) (e : MapEntry), es[i]? = some e → e.born = i ∧ ∃ k x, kvs[i]? = some (k, x) ∧ e.key = k ∧ VR w (Forb F B) B x e.val) →
      ((a.eval x = .map none ∧ es = #[]) ∨ ∃ g n, a.eval x = .map (some g) ∧ w.heap[g]? = some (.map es n)) → ValOk P w F B a o (if ok = true then .tup [(hit zv rr).1, .sc (.bool (hit zv rr).2)] else (hit zv rr).1) := by
    intro es hsz he hX
    obtain ⟨fr, hf, hcase⟩ := hval es hsz he
    have hk := run_findKey (es := es.toList) hkd hf w
    have hl : (execOp a.eval o).run P w = .ok (.value (match (generalizing := false) fr with | some (_, u) => (if ok = true then .tuple #[u, .bool true] else u) | none => (if ok = true then .tuple #[zv, .bool false] else zv))) w := by
      rcases hX with ⟨hv, rfl⟩ | ⟨g, n, hv, hg⟩
      · cases fr <;> simp only [execOp, ho, Instr.lookup, hv, e2, Sem.run_bind, run_under hu, run_checkKey hkd, hk, run_zero hi hz, Result.andThen_ok, Sem.run_pure]
      · cases fr <;> simp only [execOp, ho, Instr.lookup, hv, e2, Sem.run_bind, run_under hu, run_getMap hg, run_checkKey hkd, hk, run_zero hi hz, Result.andThen_ok, Sem.run_pure]
    rcases hcase with ⟨rfl, rfl⟩ | ⟨n, u, x', rfl, rfl, hu'⟩
    · refine ⟨_, hl, ?_⟩
      cases ok
      · exact VR.ofV zv
      · simp only [if_pos, hit, VR, VRL]
        exact ⟨_, rfl, _, _, rfl, VR.ofV zv, _, _, rfl, rfl, rfl⟩
    · refine ⟨_, hl, ?_⟩
      cases ok
      · exact hu'
      · simp only [if_pos, hit, VR, VRL]
        exact ⟨_, rfl, _, _, rfl, hu', _, _, rfl, rfl, rfl⟩
  rcases mapOf_at hH (hρ x) hkvs with ⟨hv, rfl⟩ | ⟨g, es, n, hv, hg, hsz, he⟩
  · exact fin #[] rfl (fun i e he => by simp at he) (.inl ⟨hv, rfl⟩)
  · exact fin es hsz he (.inr ⟨g, n, hv, hg⟩)
def setObjW (w : World) (g : Nat) (o : Obj) : World := { w with heap := w.heap.setIfInBounds g o }
theorem setObjW_at {g : Nat} {o : Obj} (h : g < w.heap.size) : (setObjW w g o).heap[g]? = some o := by
  simp [setObjW, Array.getElem?_setIfInBounds, h]
theorem setObjW_other {g i : Nat} {o : Obj} (h : g ≠ i) : (setObjW w g o).heap[i]? = w.heap[i]? := by
  simp [setObjW, Array.getElem?_setIfInBounds, h]
theorem run_setMap {g : Nat} {es : Array MapEntry} {n : Nat} (h : w.heap[g]? = some (.map es n)) (o : Obj) : (setObj g o).run P w = .ok () (setObjW w g o) := by
  simp [setObj, Sem.run, h, setObjW]
theorem map_upd {b g ver : Nat} {c : Option Nat} {blk : Blk} {es es' : Array MapEntry} {n : Nat} {kvs' : List (Value × AV)} (hR : HR w F B H) (hB : B b = some (g, ver, c)) (hk : H[b]? = some blk) (hv : ver = blk.ver)
    (hg : w.heap[g]? = some (.map es n)) (hsz : es'.size = kvs'.length)
    (he : ∀ (i : Nat) (e : MapEntry), es'[i]? = some e → e.born = i ∧ ∃ k x, kvs'[i]? = some (k, x) ∧ e.key = k ∧ VR w (Forb F B) B x e.val) :
    Ext w B (setObjW w g (.map es' kvs'.length)) B ∧ HR (setObjW w g (.map es' kvs'.length)) F B (H.set b { blk with kind := .map kvs' }) := by
  have hns : blk.kind ≠ .app ∧ blk.kind ≠ .ali := by
    obtain ⟨blk1, k1, _, pb⟩ := hR.at_ b g ver c hB
    rw [hk] at k1
    cases k1
    refine ⟨fun e => ?_, fun e => ?_⟩
    · simp only [BRel, e] at pb
      obtain ⟨_, _, _, p1, _⟩ := pb
      rw [hg] at p1
      cases p1
    · simp only [BRel, e] at pb
      obtain ⟨_, _, _, p1, _⟩ := pb
      rw [hg] at p1
      cases p1
  refine upd_any hR hB hk hns hv rfl rfl rfl (Nat.le_refl _) (by simp [setObjW]) (fun i hi => setObjW_other hi) (fun hE => ?_)
  simp only [BRel]
  refine ⟨es', setObjW_at (lt_of_at hg), hsz, fun i e hie => ?_⟩
  obtain ⟨h1, k, x, h2, h3, h4⟩ := he i e hie
  exact ⟨h1, k, x, h2, h3, h4.ext hE⟩
theorem op_mapUpdate (hH : HRw w F B H) (hρ : ∀ x, VR w (Forb F B) B (ρ x) (a.eval x)) {o : Oper} {t : TypeId} {m k x : Operand} (ho : o.op = .mapUpdate t m k x ∨ o.op = .insert t m k x) {r : Res} (h : aop P H ρ o = some r) :
    ∃ x i blk, r = .upd x i blk ∧ UpdOk P w F B H a o x i blk := by
  have hex : ∀ w', (Instr.mapUpdate t (a.eval m) (a.eval k) (a.eval x)).run P w = .ok () w' → (execOp a.eval o).run P w = .ok .skip w' := by
    intro w' hr
    rcases ho with ho | ho <;> (simp only [execOp, ho, Sem.run_bind, hr, Result.andThen_ok, Sem.run_pure])
  have h : (match P.underlying t with
    | some (.map kt _) =>
      match simpleKey P kt, ρ m, akey (ρ k) with
      | some kd, .mp b ver, some kv =>
        match mapAt H b ver with
        | some (blk, kvs) => match afind kd kv kvs 0 with
          | some (some (i, _)) => some (Res.upd .bad b { blk with kind := .map (kvs.set i (kv, ρ x)) })
          | some none => some (.upd .bad b { blk with kind := .map (kvs ++ [(kv, ρ x)]) })
          | none => none
        | none => none
      | _, _, _ => none
    | _ => none) = some r := by
    rcases ho with ho | ho <;> (simp only [aop, ho] at h; exact h)
  split at h <;> try (cases h; done)
  rename_i kt et hu
  split at h <;> try (cases h; done)
  rename_i kd b ver kv hkd hm hkv
  split at h <;> try (cases h; done)
  rename_i blk kvs hmap
  have e2 := akey_at (hρ k) hkv
  have hx := hρ m
  rw [hm] at hx
  obtain ⟨g, es, hv, ⟨c, hB⟩, hk, hg, hsz, he⟩ := map_at hH hx hmap
  obtain ⟨_, hver, _⟩ := mapAt_some hmap
  have hfn := fun rr (hrr : afind kd kv kvs 0 = some rr) => find_now (w := w) (Fb := Forb F B) (B := B) kvs es.toList 0 (by rw [Array.length_toList, hsz]) (fun j e hj => (he j e (by rw [← Array.getElem?_toList]; exact hj)).2) rr hrr
  split at h <;> try (cases h; done)
  · rename_i i x' hf
    cases h
    refine ⟨_, _, _, rfl, fun hR => ?_⟩
    rcases hfn _ hf with ⟨q1, _⟩ | ⟨n, x1, e, q1, q2, q3, q4, q5, q6⟩
    · cases q1
    · rw [Nat.zero_add] at q1 q3
      cases q1
      obtain ⟨hkey, hstay⟩ := sameNow_same q6
      rw [Array.getElem?_toList] at q2
      have hi : i < es.size := by rcases Nat.lt_or_ge i es.size with h | h; exact h; rw [Array.getElem?_eq_none h] at q2; cases q2
      obtain ⟨hE, hR'⟩ := map_upd (es' := es.modify i fun e => { e with key := kv, val := a.eval x }) (kvs' := kvs.set i (kv, ρ x)) hR hB hk hver.symm hg (by simp [hsz]) (fun j e' hj => by
        rw [Array.getElem?_modify] at hj
        split at hj
        · rename_i hij
          subst hij
          rw [q2] at hj
          cases hj
          exact ⟨(he i e q2).1, kv, ρ x, by rw [List.getElem?_set_self (by omega)], rfl, hρ x⟩
        · rename_i hij
          rw [List.getElem?_set_ne hij]
          exact he j e' hj)
      refine ⟨.skip, _, B, hex _ ?_, .inr ⟨rfl, rfl⟩, hE, hR', fun _ h => h, _, hB⟩
      have hgk : ((es[i]?).map (·.key)).getD kv = e.key := by rw [q2]; rfl
      have hlen : (kvs.set i (kv, ρ x)).length = kvs.length := List.length_set
      simp only [Instr.mapUpdate, Sem.run_bind, run_under hu, Result.andThen_ok, hv, e2, run_getMap hg, run_checkKey hkd, run_findKey hkd q3, hgk, hstay, run_setMap hg, hlen]
  · rename_i hf
    cases h
    refine ⟨_, _, _, rfl, fun hR => ?_⟩
    rcases hfn _ hf with ⟨_, q3⟩ | ⟨n, x1, e, q1, _⟩
    · obtain ⟨hE, hR'⟩ := map_upd (es' := es.push { key := kv, val := a.eval x, born := kvs.length }) (kvs' := kvs ++ [(kv, ρ x)]) hR hB hk hver.symm hg (by simp [hsz]) (fun j e' hj => by
        rw [Array.getElem?_push] at hj
        split at hj
        · rename_i hij
          cases hj
          exact ⟨by rw [hij, hsz], kv, ρ x, by rw [hij, hsz]; simp, rfl, hρ x⟩
        · obtain ⟨h1, k1, x1, h2, h3⟩ := he j e' hj
          have hj' : j < kvs.length := (by rcases Nat.lt_or_ge j kvs.length with h | h; exact h; rw [List.getElem?_eq_none h] at h2; cases h2)
          exact ⟨h1, k1, x1, by rw [List.getElem?_append_left hj']; exact h2, h3⟩)
      refine ⟨.skip, _, B, hex _ ?_, .inr ⟨rfl, rfl⟩, hE, hR', fun _ h => h, _, hB⟩
      have hlen : (kvs ++ [(kv, ρ x)]).length = kvs.length + 1 := by simp
      simp only [Instr.mapUpdate, Sem.run_bind, run_under hu, Result.andThen_ok, hv, e2, run_getMap hg, run_checkKey hkd, run_findKey hkd q3, run_setMap hg, hlen]
    · cases q1
theorem op_mapEntry (hH : HRw w F B H) (hρ : ∀ x, VR w (Forb F B) B (ρ x) (a.eval x)) {o : Oper} {t : TypeId} {m k : Operand} (ho : o.op = .mapEntry t m k) {r : Res} (h : aop P H ρ o = some r) :
    ∃ x i blk, r = .upd x i blk ∧ UpdOk P w F B H a o x i blk := by
  simp only [aop, ho] at h
  split at h <;> try (cases h; done)
  rename_i kt et hu
  split at h <;> try (cases h; done)
  rename_i kd b ver kv i hkd hm hkv hi
  split at h <;> try (cases h; done)
  rename_i blk kvs zv hmap hz
  have e2 := akey_at (hρ k) hkv
  have hx := hρ m
  rw [hm] at hx
  obtain ⟨g, es, hv, ⟨c, hB⟩, hk, hg, hsz, he⟩ := map_at hH hx hmap
  obtain ⟨_, hver, _⟩ := mapAt_some hmap
  have hfn := fun rr (hrr : afind kd kv kvs 0 = some rr) => find_now (w := w) (Fb := Forb F B) (B := B) kvs es.toList 0 (by rw [Array.length_toList, hsz]) (fun j e hj => (he j e (by rw [← Array.getElem?_toList]; exact hj)).2) rr hrr
  split at h <;> try (cases h; done)
  · rename_i j x' hf
    cases h
    refine ⟨_, _, _, rfl, fun hR => ?_⟩
    rcases hfn _ hf with ⟨q1, _⟩ | ⟨n, x1, e, q1, q2, q3, q4, q5, q6⟩
    · cases q1
    · rw [Nat.zero_add] at q1 q3
      cases q1
      obtain ⟨hkey, hstay⟩ := sameNow_same q6
      rw [Array.getElem?_toList] at q2
      obtain ⟨hE, hR'⟩ := map_upd (es' := es.modify j fun e => { e with key := kv }) (kvs' := kvs) hR hB hk hver.symm hg (by simp [hsz]) (fun j' e' hj => by
        rw [Array.getElem?_modify] at hj
        split at hj
        · rename_i hij
          subst hij
          rw [q2] at hj
          cases hj
          obtain ⟨h1, k1, x1, h2, h3, h4⟩ := he j e q2
          exact ⟨h1, k1, x1, h2, by rw [← h3]; exact hkey.symm, h4⟩
        · exact he j' e' hj)
      refine ⟨.value (.tuple #[e.val, .int .i64 j]), _, B, ?_, .inl ⟨_, rfl, ?_⟩, hE, hR', fun _ h => h, _, hB⟩
      · have hgk : ((es[j]?).map (·.key)).getD kv = e.key := by rw [q2]; rfl
        have hgb : ((es[j]?).map (fun e => (e.born : Int))).getD 0 = (j : Int) := by rw [q2]; exact congrArg Nat.cast (he j e q2).1
        simp only [execOp, ho, Instr.mapEntry, Sem.run_bind, run_under hu, Result.andThen_ok, hv, e2, run_getMap hg, run_checkKey hkd, run_findKey hkd q3, hgk, hstay, hgb, run_setMap hg, Sem.run_pure, goInt]
      · simp only [VR, VRL]
        exact ⟨_, rfl, _, _, rfl, q5.ext hE, _, _, rfl, rfl, rfl⟩
  · rename_i hf
    cases h
    refine ⟨_, _, _, rfl, fun hR => ?_⟩
    rcases hfn _ hf with ⟨_, q3⟩ | ⟨n, x1, e, q1, _⟩
    · obtain ⟨hE, hR'⟩ := map_upd (es' := es.push { key := kv, val := zv, born := kvs.length }) (kvs' := kvs ++ [(kv, ofV zv)]) hR hB hk hver.symm hg (by simp [hsz]) (fun j e' hj => by
        rw [Array.getElem?_push] at hj
        split at hj
        · rename_i hij
          cases hj
          exact ⟨by rw [hij, hsz], kv, ofV zv, by rw [hij, hsz]; simp, rfl, VR.ofV zv⟩
        · obtain ⟨h1, k1, x1, h2, h3⟩ := he j e' hj
          have hj' : j < kvs.length := (by rcases Nat.lt_or_ge j kvs.length with h | h; exact h; rw [List.getElem?_eq_none h] at h2; cases h2)
          exact ⟨h1, k1, x1, by rw [List.getElem?_append_left hj']; exact h2, h3⟩)
      refine ⟨.value (.tuple #[zv, .int .i64 kvs.length]), _, B, ?_, .inl ⟨_, rfl, ?_⟩, hE, hR', fun _ h => h, _, hB⟩
      · have hlen : (kvs ++ [(kv, ofV zv)]).length = kvs.length + 1 := by simp
        simp only [execOp, ho, Instr.mapEntry, Sem.run_bind, run_under hu, Result.andThen_ok, hv, e2, run_getMap hg, run_checkKey hkd, run_findKey hkd q3, run_zero hi hz, run_setMap hg, Sem.run_pure, goInt, hlen]
      · simp only [VR, VRL]
        exact ⟨_, rfl, _, _, rfl, VR.ofV zv, _, _, rfl, rfl, rfl⟩
    · cases q1
theorem op_entryStore (hH : HRw w F B H) (hρ : ∀ x, VR w (Forb F B) B (ρ x) (a.eval x)) {o : Oper} {t : TypeId} {m s x : Operand} (ho : o.op = .entryStore t m s x) {r : Res} (h : aop P H ρ o = some r) :
    ∃ x i blk, r = .upd x i blk ∧ UpdOk P w F B H a o x i blk := by
  simp only [aop, ho] at h
  split at h <;> try (cases h; done)
  rename_i b ver n hm hs
  split at h <;> try (cases h; done)
  rename_i blk kvs hmap
  split at h <;> try (cases h; done)
  rename_i hn
  split at h <;> try (cases h; done)
  rename_i k x0 hkx
  cases h
  obtain ⟨q, e1⟩ := aint_at (hρ s) hs
  have hx := hρ m
  rw [hm] at hx
  obtain ⟨g, es, hv, ⟨c, hB⟩, hk, hg, hsz, he⟩ := map_at hH hx hmap
  obtain ⟨_, hver, _⟩ := mapAt_some hmap
  have hlt : n.toNat < es.size := by
    rw [hsz]
    rcases Nat.lt_or_ge n.toNat kvs.length with h | h
    · exact h
    · rw [List.getElem?_eq_none h] at hkx; cases hkx
  refine ⟨_, _, _, rfl, fun hR => ?_⟩
  obtain ⟨hE, hR'⟩ := map_upd (es' := es.modify n.toNat fun e => { e with val := a.eval x }) (kvs' := kvs.set n.toNat (k, ρ x)) hR hB hk hver.symm hg (by simp [hsz]) (fun j e' hj => by
    rw [Array.getElem?_modify] at hj
    split at hj
    · rename_i hij
      subst hij
      obtain ⟨e, he1, rfl⟩ := Option.map_eq_some_iff.1 hj
      obtain ⟨h1, k1, x1, h2, h3, h4⟩ := he _ e he1
      rw [hkx] at h2
      cases h2
      exact ⟨h1, k, ρ x, by rw [List.getElem?_set_self (by omega)], h3, hρ x⟩
    · rename_i hij
      rw [List.getElem?_set_ne hij]
      exact he j e' hj)
  refine ⟨.skip, _, B, ?_, .inr ⟨rfl, rfl⟩, hE, hR', fun _ h => h, _, hB⟩
  have hborn : ∀ (i : Nat) (h : i < es.size), (es[i]).born = i := fun i h => (he i _ (Array.getElem?_eq_getElem h)).1
  have hfi : ∀ v : Int, v = n → es.findIdx? (fun e => (e.born : Int) == v) = some n.toNat := by
    intro v hv
    rw [Array.findIdx?_eq_some_iff_getElem]
    refine ⟨hlt, by rw [hborn _ hlt]; simp; omega, fun j hj => by rw [hborn j (by omega)]; simp; omega⟩
  have hlen : (kvs.set n.toNat (k, ρ x)).length = kvs.length := List.length_set
  simp only [execOp, ho, Instr.entryStore, Sem.run_bind, Result.andThen_ok, hv, e1, asInt, run_asInt, run_getMap hg, Sem.run_pure]
  rw [hfi _ rfl]
  simp only [Sem.run_bind, run_setMap hg, Result.andThen_ok, Sem.run_pure, hlen]
theorem shape_of {g : Nat} {cur : Array Value} {e : TypeId} (h : w.heap[g]? = some (.cells cur e (0, 0))) : w.shape? g = some (e, cur.size) := by
  simp [World.shape?, h]
theorem op_convert (hH : HRw w F B H) (hρ : ∀ x, VR w (Forb F B) B (ρ x) (a.eval x)) {o : Oper} {src dst : TypeId} {x : Operand} (ho : o.op = .convert src dst x) {r : Res} (h : aop P H ρ o = some r) :
    ∃ x, r = .val x ∧ ValOk P w F B a o x := by
  simp only [aop, ho] at h
  split at h
  · rename_i b off ver e1
    have hx := hρ x
    rw [e1] at hx
    split at h <;> try (cases h; done)
    · rename_i t blk hs hd hb
      split at h <;> try (cases h; done)
      rename_i n hsz
      split at h <;> try (cases h; done)
      rename_i hlt
      cases h
      obtain ⟨g, c, hv, hB, cur, ys, rest, q1, q2, q3, q4, q5⟩ := ptr_at hH hx hb
      obtain ⟨j, hj, hjs⟩ := Option.map_eq_some_iff.1 hsz
      have hl := q3.length
      have hcl : cur.toList.length = cur.size := Array.length_toList
      rw [q2, List.length_append] at hcl
      refine ⟨_, rfl, a.eval x, ?_, by rw [← e1]; exact hρ x⟩
      have := Lib.run_to_unsafe (P := P) (w := w) (src := src) (dst := dst) ⟨g, off, none⟩ hs hd hj (by omega) (shape_of q1) (by show off < cur.size; omega)
      simp only [execOp, ho, hv, Sem.run_bind, this, Result.andThen_ok, Sem.run_pure]
    · rename_i u blk hs hd hb
      split at h <;> try (cases h; done)
      rename_i hc
      simp only [Bool.and_eq_true, Bool.not_eq_true'] at hc
      obtain ⟨⟨hgr, hi⟩, hlies⟩ := hc
      cases h
      obtain ⟨g, c, hv, hB, cur, ys, rest, q1, q2, q3, q4, q5, q6⟩ := ptr_at hH hx hb
      obtain ⟨j, hj⟩ := Option.isSome_iff_exists.1 hi
      have hl := q3.length
      obtain ⟨_, rfl⟩ := q6 hgr
      have hcl : cur.toList.length = cur.size := Array.length_toList
      rw [q2, List.length_append] at hcl
      simp only [List.length_nil] at hcl
      refine ⟨_, rfl, a.eval x, ?_, by rw [← e1]; exact hρ x⟩
      have := Lib.run_from_unsafe (P := P) (w := w) (src := src) (dst := dst) ⟨g, off, none⟩ hs hd hj (shape_of q1) (by rw [show cur.size = blk.cells.length by omega]; exact hlies)
      simp only [execOp, ho, hv, Sem.run_bind, this, Result.andThen_ok, Sem.run_pure]
  · exact ValOk.of_sop hρ h
theorem op_sliceData (hH : HRw w F B H) (hρ : ∀ x, VR w (Forb F B) B (ρ x) (a.eval x)) {o : Oper} {c : Call} (ho : o.op = .call c) (hc : c.callee = .builtin .unsafeSliceData) {r : Res} (h : aop P H ρ o = some r) :
    ∃ x, r = .val x ∧ ValOk P w F B a o x := by
  simp only [aop, ho, hc] at h
  split at h <;> try (cases h; done)
  rename_i x hargs
  split at h
  · rename_i b o1 len sz ver e1
    split at h <;> try (cases h; done)
    rename_i hlen
    split at h <;> try (cases h; done)
    rename_i blk hb
    cases h
    have hx := hρ x
    rw [e1] at hx
    obtain ⟨g, cap, cc, hv, hB, hcap, hcc, hbr⟩ := own_at hH hx hb
    have ea : c.args = #[x] := by rw [← Array.toList_inj]; exact hargs
    refine ⟨_, rfl, .pointer (some ⟨g, o1 * sz, none⟩), ?_, ?_⟩
    · obtain ⟨cs', hcs'⟩ := run_call (a := a) ho hc
      have := Lib.run_unsafeSliceData_row (P := P) (w := w) c.argTypes o.type ⟨g, o1 * sz, none⟩ len cap (by omega)
      rw [hcs', ea]
      simp only [builtin, List.map_toArray, List.map_cons, List.map_nil, hv, Sem.run_bind, this, Result.andThen_ok, Sem.run_pure]
    · simp only [VR]
      exact ⟨_, g, ver, cc, rfl, hB, Nat.le_refl _, fun _ => rfl⟩
  · exact ValOk.of_sop hρ h
theorem bytesOf_at {Fb : Nat → Prop} : ∀ {cs : List AV} {ys : List Value} {l : List UInt8}, VRL w Fb B cs ys → bytesOf cs = some l → l.length = cs.length ∧ ∀ (j : Nat) x, l[j]? = some x → ys[j]? = some (.int .u8 x.toNat)
  | [], ys, l, h, k => by
    simp only [bytesOf, Option.some.injEq] at k
    subst k
    exact ⟨rfl, fun j x hx => by simp at hx⟩
  | x :: cs, ys, l, h, k => by
    unfold bytesOf at k
    split at k
    · rename_i hnil; cases hnil
    · rename_i n r heq
      cases heq
      split at k <;> try (cases k; done)
      rename_i hn
      obtain ⟨l', hl', rfl⟩ := Option.map_eq_some_iff.1 k
      simp only [VRL] at h
      obtain ⟨y, r', rfl, h1, h2⟩ := h
      simp only [VR] at h1
      obtain ⟨i1, i2⟩ := bytesOf_at h2 hl'
      refine ⟨by simp [i1], fun j x hx => ?_⟩
      cases j with
      | zero => simp only [List.getElem?_cons_zero, Option.some.injEq] at hx ⊢; rw [h1, ← hx, hn]
      | succ j => simp only [List.getElem?_cons_succ] at hx ⊢; exact i2 j x hx
    · cases k
theorem op_unsafeString (hρ : ∀ x, VR w (Forb F B) B (ρ x) (a.eval x)) {o : Oper} {c : Call} (ho : o.op = .call c) (hc : c.callee = .builtin .unsafeString) {r : Res} (h : aop P H ρ o = some r) : ResOk P w F B H a o r := by
  simp only [aop, ho, hc] at h
  split at h <;> try (cases h; done)
  rename_i p n pt it hargs htys
  split at h
  · rename_i b off ver k e1 e2
    split at h <;> try (cases h; done)
    rename_i hc0
    simp only [Bool.and_eq_true, decide_eq_true_eq, beq_iff_eq] at hc0
    obtain ⟨⟨hk0, rfl⟩, hmx⟩ := hc0
    split at h <;> try (cases h; done)
    rename_i blk e hb hu
    split at h <;> try (cases h; done)
    rename_i hc1
    simp only [Bool.and_eq_true, decide_eq_true_eq, beq_iff_eq] at hc1
    obtain ⟨⟨hce, hel⟩, hle⟩ := hc1
    split at h <;> try (cases h; done)
    rename_i l hl
    cases h
    intro hR
    have hx := hρ p
    rw [e1] at hx
    have hn := hρ n
    rw [e2] at hn
    simp only [VR] at hn
    obtain ⟨g, cc, hv, hB, cur, ys, rest, q1, q2, q3, q4, q5⟩ := ptr_at hR.weak hx hb
    obtain ⟨hk, hver, hkd⟩ := blkAt_some hb
    obtain ⟨i1, i2⟩ := bytesOf_at (VRL.take k.toNat q3) hl
    have hyl := q3.length
    have hcl : cur.toList.length = cur.size := Array.length_toList
    rw [q2, List.length_append] at hcl
    rw [List.length_take, Nat.min_eq_left hle] at i1
    have hkl : k = (l.length : Nat) := by omega
    have ea : c.args = #[p, n] := by rw [← Array.toList_inj]; exact hargs
    have et : c.argTypes = #[pt, it] := by rw [← Array.toList_inj]; exact htys
    obtain ⟨cs', hcs'⟩ := run_call (a := a) ho hc
    have hrun := Lib.run_unsafeString_row (P := P) (w := w) pt it o.type e hu hce g cur.size (by rw [← hel]; exact shape_of q1) l (by intro h0; rw [h0] at i1; simp at i1; omega) (by omega) (by unfold maxLen at hmx; omega) (fun j x hj => by
      have hy := i2 j x hj
      have hj' : j < l.length := by rcases Nat.lt_or_ge j l.length with h | h; exact h; rw [List.getElem?_eq_none h] at hj; cases hj
      rw [List.getElem?_take, if_pos (by omega)] at hy
      rw [addr_add]
      simp only [World.cell?, q1, Nat.zero_add]
      rw [← Array.getElem?_toList, q2, List.getElem?_append_left (by omega)]
      simpa using hy)
    obtain ⟨hE, hR'⟩ := upd_any (w' := w.freeze ⟨g, 0, none⟩ l.length) (blk2 := { blk with kind := .dead }) hR hB hk (by rw [hkd]; exact ⟨by simp, by simp⟩) hver.symm (by unfold World.freeze; split <;> rfl) (by unfold World.freeze; split <;> rfl) (by unfold World.freeze; split <;> rfl) (by unfold World.freeze; split <;> exact Nat.le_refl _) (by unfold World.freeze; split <;> simp)
      (fun i hi => by unfold World.freeze; split; rfl; simp [Array.getElem?_modify, hi]) (fun hE => by simp only [BRel]; unfold World.freeze; split; exact lt_of_at q1; simpa using lt_of_at q1)
    refine ⟨.value (.string ⟨l.toArray⟩), _, B, ?_, .inl ⟨_, rfl, by simp only [VR]⟩, hE, hR', fun _ h => h, _, hB⟩
    rw [hcs', ea, et]
    simp only [builtin, List.map_toArray, List.map_cons, List.map_nil, hv, hn, hkl, Sem.run_bind, hrun, Result.andThen_ok, Sem.run_pure]
  · obtain ⟨x, rfl, hx⟩ := ValOk.of_sop hρ h
    exact hx
end
end Go.Proofs.YtpgipdajinkdgaaGreatA
