/- A part of the proof of StrataFewer: functions of the program, run by the evaluator. -/

/- Rows of rows that grow, each in a block of its own. -/
import Derived.Test.YtigfnhbbfbnicaaN32
namespace Go.Proofs.YtigfnhbbfbnicaaA
open Go Go.RowKit
set_option linter.all false
set_option linter.unusedSectionVars false
set_option linter.constructorNameAsVariable false
set_option linter.unusedVariables false
set_option linter.unusedSimpArgs false
def blkOf : AV → Option Nat
  | .own b _ _ _ _ => some b
  | _ => none
theorem blkOf_lt {e : TypeId} {H : List Blk} {v : AV} {rows : List (List AV)} {c : Nat} (h : OutAt e 1 H v rows) (hb : blkOf v = some c) : c < H.length := by
  rcases h with ⟨_, rfl⟩ | ⟨_, b, ver, rfl, h2⟩
  · cases hb
  · cases hb
    exact (List.getElem?_eq_some_iff.1 h2).1
theorem out_keep2 {e : TypeId} {H H' : List Blk} {v : AV} {rows : List (List AV)} (h : OutAt e 1 H v rows) (hk : ∀ c, c < H.length → blkOf v = some c → H'[c]? = H[c]?) : OutAt e 1 H' v rows := by
  rcases h with ⟨h1, h2⟩ | ⟨h1, b, ver, rfl, h2⟩
  · exact .inl ⟨h1, h2⟩
  · exact .inr ⟨h1, b, ver, rfl, by rw [hk b (List.getElem?_eq_some_iff.1 h2).1 rfl]; exact h2⟩
theorem app_frame {t e : TypeId} {bytes : Nat} {H : List Blk} {v x : AV} {rows : List (List AV)} (ht : rowOk Try.prog t e 1 bytes = true) (ho : OutAt e 1 H v rows) (hr : ∀ r ∈ rows, r.length = 1) (hx : one x = true) (hb : (rows.length + 1) * bytes ≤ 140737488355328) (hm : rows.length + 1 ≤ maxLen) :
    ∃ v' H', outH H (aappend Try.prog H t v (mkL 1 [[x]])) = some (v', H') ∧ OutAt e 1 H' v' (rows ++ [[x]]) ∧ H.length ≤ H'.length ∧ (∀ c, c < H.length → blkOf v ≠ some c → H'[c]? = H[c]?) ∧ (∀ c, blkOf v' = some c → blkOf v = some c ∨ H.length ≤ c) := by
  rcases ho with ⟨h0, e0⟩ | ⟨hne, c, ver, e0, hc⟩
  · subst h0 e0
    have ha := acc1 (P := Try.prog) (H := H) (rows := []) (r := [x]) ht (fun _ h => by cases h) rfl (by simp [hx]) (by simpa using hb) (by simpa using hm)
    simp only [accV_nil, accB_nil, List.append_nil, List.nil_append] at ha
    refine ⟨_, _, ha, acc_out, by simp, fun c hc _ => by rw [List.getElem?_append_left hc], fun c e => .inr ?_⟩
    simp only [accV, reduceCtorEq, if_false, List.cons_ne_self, blkOf, Option.some.injEq] at e
    omega
  · have hb' := app_o (P := Try.prog) (H := H) (b := c) (ver := ver) (rows := rows) (more := [[x]]) ht hc hr (by simp) (fun r hr => by rw [List.mem_singleton] at hr; subst hr; simp [hx]) (by simpa using hb) (by simpa using hm)
    have hcl : c < H.length := (List.getElem?_eq_some_iff.1 hc).1
    subst e0
    rw [hb']
    refine ⟨_, _, rfl, .inr ⟨by simp, c, ver + 1, by simp, ?_⟩, by simp, fun d hd hn => ?_, fun d e => ?_⟩
    · rw [List.getElem?_set_self hcl]
      simp
    · rw [List.getElem?_set_ne]
      rintro rfl
      exact hn rfl
    · simp only [blkOf] at e
      exact .inl e
structure NestAt (eo ei : TypeId) (H : List Blk) (v : AV) (vs : List AV) (ls : List (List (List AV))) : Prop where
  top : OutAt eo 1 H v (vs.map fun x => [x])
  len : vs.length = ls.length
  out : ∀ (i : Nat) w r, vs[i]? = some w → ls[i]? = some r → OutAt ei 1 H w r
  pos : ∀ (i : Nat) w c, vs[i]? = some w → blkOf w = some c → blkOf v ≠ some c
  sep : ∀ (i j : Nat) w x c, i ≠ j → vs[i]? = some w → vs[j]? = some x → blkOf w = some c → blkOf x ≠ some c
theorem NestAt.nil {eo ei : TypeId} {H : List Blk} : NestAt eo ei H (.sc (.slice none 0 0)) [] [] := ⟨.inl ⟨rfl, rfl⟩, rfl, fun i w r h => by simp at h, fun i w c h => by simp at h, fun i j w x c _ h => by simp at h⟩
theorem NestAt.at_ {eo ei : TypeId} {H : List Blk} {v : AV} {vs : List AV} {ls : List (List (List AV))} (h : NestAt eo ei H v vs ls) {i : Nat} {w : AV} (hw : vs[i]? = some w) : ∃ r, ls[i]? = some r ∧ OutAt ei 1 H w r := by
  have hi := (List.getElem?_eq_some_iff.1 hw).1
  have hr : ls[i]? = some (ls[i]'(by have := h.len; omega)) := List.getElem?_eq_getElem _
  exact ⟨_, hr, h.out i w _ hw hr⟩
theorem NestAt.keep {eo ei : TypeId} {H H' : List Blk} {v : AV} {vs : List AV} {ls : List (List (List AV))} (h : NestAt eo ei H v vs ls) (hk : ∀ c, c < H.length → H'[c]? = H[c]?) : NestAt eo ei H' v vs ls :=
  ⟨out_keep2 h.top fun c hc _ => hk c hc, h.len, fun i w r hw hr => out_keep2 (h.out i w r hw hr) fun c hc _ => hk c hc, h.pos, h.sep⟩
theorem NestAt.push {eo ei to : TypeId} {bytes : Nat} {H : List Blk} {v x : AV} {vs : List AV} {ls : List (List (List AV))} {r : List (List AV)} (h : NestAt eo ei H v vs ls) (ht : rowOk Try.prog to eo 1 bytes = true) (hb : (ls.length + 1) * bytes ≤ 140737488355328) (hm : ls.length + 1 ≤ maxLen)
    (hx : OutAt ei 1 H x r) (hx0 : ∀ c, blkOf x = some c → blkOf v ≠ some c) (hxs : ∀ (i : Nat) w c, vs[i]? = some w → blkOf w = some c → blkOf x ≠ some c) :
    ∃ v' H', outH H (aappend Try.prog H to v (mkL 1 [[x]])) = some (v', H') ∧ NestAt eo ei H' v' (vs ++ [x]) (ls ++ [r]) ∧ H.length ≤ H'.length := by
  obtain ⟨_, _, hone⟩ := out_own hx
  obtain ⟨v', H', e1, o1, l1, k1, s1⟩ := app_frame ht h.top (fun r hr => by
    obtain ⟨_, _, rfl⟩ := List.mem_map.1 hr
    rfl) hone (by rw [List.length_map, h.len]; exact hb) (by rw [List.length_map, h.len]; exact hm)
  have hcase : ∀ (i : Nat) w, (vs ++ [x])[i]? = some w → (vs[i]? = some w ∧ i < vs.length) ∨ (i = vs.length ∧ w = x) := fun i w hw => by
    rcases Nat.lt_or_ge i vs.length with hi | hi
    · rw [List.getElem?_append_left hi] at hw
      exact .inl ⟨hw, hi⟩
    · have hl := (List.getElem?_eq_some_iff.1 hw).1
      rw [List.length_append, List.length_singleton] at hl
      obtain rfl : i = vs.length := by omega
      rw [List.getElem?_concat_length] at hw
      exact .inr ⟨rfl, (Option.some.inj hw).symm⟩
  have hv'ne : ∀ w c, (∀ c, blkOf w = some c → c < H.length) → (∀ c, blkOf w = some c → blkOf v ≠ some c) → blkOf w = some c → blkOf v' ≠ some c := fun w c h1 h2 h3 h4 => by
    rcases s1 c h4 with h5 | h5
    · exact h2 c h3 h5
    · have := h1 c h3
      omega
  refine ⟨v', H', e1, ⟨by rw [List.map_append]; exact o1, by simp [h.len], fun i w q hw hq => ?_, fun i w c hw hc => ?_, fun i j w y c hij hw hy hc => ?_⟩, l1⟩
  · rcases hcase i w hw with ⟨h1, h2⟩ | ⟨rfl, rfl⟩
    · rw [List.getElem?_append_left (by have := h.len; omega)] at hq
      exact out_keep2 (h.out i w q h1 hq) fun c hc he => k1 c hc (h.pos i w c h1 he)
    · rw [h.len, List.getElem?_concat_length] at hq
      obtain rfl := Option.some.inj hq
      exact out_keep2 hx fun c hc he => k1 c hc (hx0 c he)
  · rcases hcase i w hw with ⟨h1, h2⟩ | ⟨rfl, rfl⟩
    · obtain ⟨q, _, hq⟩ := h.at_ h1
      exact hv'ne w c (fun c hc => blkOf_lt hq hc) (fun c hc => h.pos i w c h1 hc) hc
    · exact hv'ne w c (fun c hc => blkOf_lt hx hc) hx0 hc
  · rcases hcase i w hw with ⟨h1, h2⟩ | ⟨rfl, rfl⟩
    · rcases hcase j y hy with ⟨h3, h4⟩ | ⟨rfl, rfl⟩
      · exact h.sep i j w y c hij h1 h3 hc
      · exact hxs i w c h1 hc
    · rcases hcase j y hy with ⟨h3, h4⟩ | ⟨h3, rfl⟩
      · exact fun he => hxs j y c h3 he hc
      · exact absurd h3.symm hij
theorem NestAt.grow {eo ei ti : TypeId} {bytes b ver k : Nat} {H : List Blk} {x w : AV} {vs : List AV} {ls : List (List (List AV))} {r : List (List AV)} (h : NestAt eo ei H (.own b 0 vs.length 1 ver) vs ls) (ht : rowOk Try.prog ti ei 1 bytes = true) (hw : vs[k]? = some w) (hr : ls[k]? = some r) (hrl : ∀ q ∈ r, q.length = 1) (hx : one x = true) (hb : (r.length + 1) * bytes ≤ 140737488355328) (hm : r.length + 1 ≤ maxLen) :
    ∃ w' H', outH H (aappend Try.prog H ti w (mkL 1 [[x]])) = some (w', H') ∧ H[b]? = some ⟨eo, 1, ver, true, vs, .cells⟩ ∧ H'[b]? = some ⟨eo, 1, ver, true, vs, .cells⟩ ∧ solid w' = true ∧ acells w' = [w'] ∧ one w' = true ∧
      NestAt eo ei (H'.set b ⟨eo, 1, ver, true, vs.set k w', .cells⟩) (.own b 0 vs.length 1 ver) (vs.set k w') (ls.set k (r ++ [[x]])) := by
  have hk := (List.getElem?_eq_some_iff.1 hw).1
  have hne : vs ≠ [] := by rintro rfl; simp at hk
  have htop : H[b]? = some ⟨eo, 1, ver, true, vs, .cells⟩ := by
    rcases h.top with ⟨h1, h2⟩ | ⟨h1, b', ver', h2, h3⟩
    · cases h2
    · have hb' : b = b' := congrArg (fun v => (blkOf v).getD 0) h2
      have hv' : ver = ver' := congrArg (fun v => match v with | AV.own _ _ _ _ x => x | _ => 0) h2
      rw [flat_one, ← hb', ← hv'] at h3
      exact h3
  have ho := h.out k w r hw hr
  obtain ⟨w', H', e1, o1, l1, k1, s1⟩ := app_frame ht ho hrl hx hb hm
  obtain ⟨p1, p2, p3⟩ := out_own o1
  have hbl := (List.getElem?_eq_some_iff.1 htop).1
  have hwb : blkOf w ≠ some b := fun e => h.pos k w b hw e rfl
  have hw'b : blkOf w' ≠ some b := fun e => by
    rcases s1 b e with h1 | h1
    · exact hwb h1
    · omega
  have hH' : H'[b]? = some ⟨eo, 1, ver, true, vs, .cells⟩ := by rw [k1 b hbl hwb]; exact htop
  refine ⟨w', H', e1, htop, hH', p1, p2, p3, ⟨?_, by rw [List.length_set, List.length_set]; exact h.len, fun i y q hy hq => ?_, fun i y c hy hc => ?_, fun i j y u c hij hy hz hc => ?_⟩⟩
  · refine .inr ⟨?_, b, ver, by rw [List.length_map, List.length_set], ?_⟩
    · intro e
      have := congrArg List.length e
      rw [List.length_map, List.length_set] at this
      exact hne (List.eq_nil_of_length_eq_zero this)
    · rw [List.getElem?_set_self (List.getElem?_eq_some_iff.1 hH').1, flat_one]
  · by_cases hik : k = i
    · subst hik
      rw [List.getElem?_set_self hk] at hy
      rw [List.getElem?_set_self (by have := h.len; omega)] at hq
      obtain rfl := Option.some.inj hy
      obtain rfl := Option.some.inj hq
      exact out_keep2 o1 fun c hc he => by rw [List.getElem?_set_ne]; rintro rfl; exact hw'b he
    · rw [List.getElem?_set_ne hik] at hy hq
      refine out_keep2 (h.out i y q hy hq) fun c hc he => ?_
      rw [List.getElem?_set_ne (by rintro rfl; exact h.pos i y _ hy he rfl)]
      exact k1 c hc (fun h2 => h.sep i k y w c (fun e => hik e.symm) hy hw he h2)
  · by_cases hik : k = i
    · subst hik
      rw [List.getElem?_set_self hk] at hy
      obtain rfl := Option.some.inj hy
      intro e
      simp only [blkOf, Option.some.injEq] at e
      subst e
      exact hw'b hc
    · rw [List.getElem?_set_ne hik] at hy
      exact h.pos i y c hy hc
  · have hcross : ∀ i y c, i ≠ k → vs[i]? = some y → blkOf y = some c → blkOf w' ≠ some c := fun i y c hik hy hc he => by
      rcases s1 c he with h1 | h1
      · exact h.sep i k y w c hik hy hw hc h1
      · obtain ⟨q, _, hq⟩ := h.at_ hy
        have := blkOf_lt hq hc
        omega
    by_cases hik : k = i
    · subst hik
      rw [List.getElem?_set_self hk] at hy
      obtain rfl := Option.some.inj hy
      rw [List.getElem?_set_ne hij] at hz
      exact fun he => hcross j u c (fun e => hij e.symm) hz he hc
    · rw [List.getElem?_set_ne hik] at hy
      by_cases hjk : k = j
      · subst hjk
        rw [List.getElem?_set_self hk] at hz
        obtain rfl := Option.some.inj hz
        exact hcross i y c (fun e => hik e.symm) hy hc
      · rw [List.getElem?_set_ne hjk] at hz
        exact h.sep i j y u c hij hy hz hc
theorem all_deep {H : List Blk} {k : Nat} {cs : List AV} (h : ∀ x ∈ cs, deepF H k x = true) : cs.all (deepF H k) = true := List.all_eq_true.2 h
theorem out_deep {e : TypeId} {H : List Blk} {v : AV} {rows : List (List AV)} {k : Nat} (h : OutAt e 1 H v rows) (hl : ∀ q ∈ rows, q.length = 1 ∧ ∀ x ∈ q, ∃ u, x = .sc u) : deepF H (k + 2) v = true := by
  rcases h with ⟨_, rfl⟩ | ⟨_, b, ver, rfl, hk⟩
  · rfl
  · have hfl := flat_len' (sz := 1) (fun r hr => (hl r hr).1)
    simp only [deepF]
    rw [blkAt_some' hk rfl rfl]
    simp only [rdCells, Nat.zero_mul, Nat.zero_add, hfl, Nat.le_refl, if_true, List.drop_zero]
    rw [← hfl, List.take_length]
    exact all_deep (k := k + 1) fun x hx => by
      obtain ⟨r, hr', hx⟩ := List.mem_flatten.1 hx
      obtain ⟨u, rfl⟩ := (hl r hr').2 x hx
      rfl
theorem NestAt.deep {eo ei : TypeId} {H : List Blk} {v : AV} {vs : List AV} {ls : List (List (List AV))} {k : Nat} (h : NestAt eo ei H v vs ls) (hl : ∀ r ∈ ls, ∀ q ∈ r, q.length = 1 ∧ ∀ x ∈ q, ∃ u, x = .sc u) : deepF H (k + 3) v = true := by
  rcases h.top with ⟨_, h2⟩ | ⟨_, b, ver, h2, hk⟩
  · subst h2; rfl
  · subst h2
    rw [flat_one] at hk
    simp only [deepF]
    rw [blkAt_some' hk rfl rfl]
    simp only [rdCells, Nat.zero_mul, Nat.zero_add, List.length_map, Nat.mul_one, Nat.le_refl, if_true, List.drop_zero, List.take_length]
    exact all_deep (k := k + 2) fun x hx => by
      obtain ⟨i, hi⟩ := List.getElem?_of_mem hx
      obtain ⟨r, hr, ho⟩ := h.at_ hi
      exact out_deep ho (hl r (List.mem_of_getElem? hr))
theorem NestAt.rb {eo ei : TypeId} {H : List Blk} {v : AV} {vs : List AV} {ls : List (List (List AV))} (h : NestAt eo ei H v vs ls) (hl : ∀ r ∈ ls, ∀ q ∈ r, q.length = 1 ∧ ∀ x ∈ q, Stays x) (k : Nat) : rb H (k + 3) v = some (mkL 1 (ls.map fun r => [mkL 1 r])) := by
  have e : k + 3 = (k + 2) + 1 := rfl
  rcases h.top with ⟨h1, h2⟩ | ⟨h1, b, ver, h2, h3⟩
  · have hv : vs = [] := by simpa using h1
    subst hv h2
    have : ls = [] := by have := h.len; exact List.eq_nil_of_length_eq_zero (by simpa using this.symm)
    subst this
    rfl
  rw [flat_one] at h3
  rw [List.length_map] at h2
  subst h2
  rw [e, rb_ownC, blkR_some' h3 rfl rfl]
  simp only [Nat.zero_mul, Nat.mul_one, rdCells]
  rw [if_pos (by omega), List.drop_zero, List.take_of_length_le (by omega)]
  have key : ∀ (l : List AV) (f : List (List (List AV))), l.length = f.length → (∀ (i : Nat) w r, l[i]? = some w → f[i]? = some r → OutAt ei 1 H w r) → (∀ r ∈ f, ∀ q ∈ r, q.length = 1 ∧ ∀ x ∈ q, Stays x) → amap (Go.Proofs.YtigfnhbbfbnicaaA.rb H (k + 2)) l = some (f.map fun r => mkL 1 r) := by
    intro l
    induction l with
    | nil =>
      intro f hf _ _
      cases f with
      | nil => rfl
      | cons _ _ => simp at hf
    | cons v l ih =>
      intro f hlen hf hq
      cases f with
      | nil => simp at hlen
      | cons r f =>
        have h0 := rb_out (k := k) (hf 0 v r rfl rfl) (fun q hq' => (hq r (by simp) q hq').1) (fun q hq' x hx => (hq r (by simp) q hq').2 x hx)
        have h1 := ih f (by simpa using hlen) (fun i w r' hw hr => hf (i + 1) w r' (by simpa using hw) (by simpa using hr)) (fun r' hr' => hq r' (by simp [hr']))
        simp only [amap, h0, h1, List.map_cons]
  simp only []
  rw [key vs ls h.len h.out hl]
  simp only [Option.map_some]
  have hc : chunks 1 vs.length (ls.map fun r => mkL 1 r) = ls.map fun r => [mkL 1 r] := by
    have := chunks_flat' (sz := 1) (rows := ls.map fun r => [mkL 1 r]) (fun r hr => by
      obtain ⟨_, _, rfl⟩ := List.mem_map.1 hr
      rfl)
    rw [List.length_map, ← h.len] at this
    rw [← this]
    congr 1
    rw [← flat_one (ls.map fun r => mkL 1 r), List.map_map]
    rfl
  rw [hc]
end Go.Proofs.YtigfnhbbfbnicaaA
