
/- slices.Compact of pairs. -/
import Derived.Test.YtfkilcegdajdcaaGPairs
import Derived.Test.YtfkilcegdajdcaaGStore
import Derived.Laws.StructEq
namespace Go.Proofs.Ytfkilcegdajdcaa.PZ
open Go.RowKit Go.Proofs.YtfkilcegdajdcaaW.PrintWords Go.Proofs.YtfkilcegdajdcaaW.PrintLast Go.Proofs.YtfkilcegdajdcaaW.PrintMore
set_option linter.unusedVariables false
set_option linter.unusedSimpArgs false
instance : DecidableEq S53 := fun a b => decidable_of_iff (a.f0 = b.f0 ∧ a.f1 = b.f1) ⟨fun h => by cases a; cases b; simp only at h; rw [h.1, h.2], fun h => by rw [h]; exact ⟨rfl, rfl⟩⟩
structure Row (w W : World) (g cap n : Nat) (dk : Array S53) : Prop where
  size : dk.size = n
  blk : ∃ cur : Array Value, W.heap[g]? = some (.cells cur 53 (0, 0)) ∧ cur.size = cap * 2 ∧ cur.toList.take (n * 2) = flat dk.toList
  kept : Kept w W (fun k => k = g)
  below : Below g w W
section
variable {w W : World} {g cap n : Nat} {dk : Array S53}
theorem Row.drawn {W2 : World} (h : Row w W g cap n dk) (hd : Drawn0 W W2) : Row w W2 g cap n dk := by
  obtain ⟨⟨q, rfl⟩⟩ := hd
  exact ⟨h.size, h.blk, h.kept, ⟨h.below.os, h.below.tape, h.below.output, h.below.size, h.below.block⟩⟩
theorem Row.at (h : Row w W g cap n dk) (j : Nat) (hj : j < n) : W.cell? ⟨g, j * 2, none⟩ = some (.int .i64 dk[j]!.f0) ∧ W.cell? ⟨g, j * 2 + 1, none⟩ = some (.int .i64 dk[j]!.f1) := by
  obtain ⟨cur, hb, hs, ht⟩ := h.blk
  have hn := h.size
  have key : ∀ t, t < n * 2 → W.cell? ⟨g, t, none⟩ = some (encP dk[t / 2]!)[t % 2]! := by
    intro t htl
    rw [blk_cell hb t]
    have h3 := congrArg (fun q => q[t]?) ht
    simp only [List.getElem?_take, htl, if_true] at h3
    rw [Array.getElem?_toList] at h3
    have hl : t < dk.toList.length * 2 := by simp [hn]; exact htl
    rw [h3, flat_get _ t hl z53, List.getD_eq_getElem?_getD, Array.getElem?_toList]
    have hd : t / 2 < dk.size := by omega
    rw [Array.getElem?_eq_getElem hd, getElem!_pos dk _ hd]
    rfl
  constructor
  · rw [key (j * 2) (by omega), show j * 2 / 2 = j by omega, show j * 2 % 2 = 0 by omega]; rfl
  · rw [key (j * 2 + 1) (by omega), show (j * 2 + 1) / 2 = j by omega, show (j * 2 + 1) % 2 = 1 by omega]; rfl
theorem Row.frozen (h : Row w W g cap n dk) (j : Nat) : W.frozen? ⟨g, j, none⟩ = false := by
  obtain ⟨cur, hb, _⟩ := h.blk
  exact blk_frozen hb j
theorem Row.get (h : Row w W g cap n dk) {cur : Array Value} (hb : W.heap[g]? = some (.cells cur 53 (0, 0))) (t : Nat) (ht : t < n * 2) : cur[t]? = some (encP dk[t / 2]!)[t % 2]! := by
  obtain ⟨cur', hb', hs, htk⟩ := h.blk
  rw [hb'] at hb
  injection hb with hb
  injection hb with hb
  subst hb
  have hn := h.size
  have h3 := congrArg (fun q => q[t]?) htk
  simp only [List.getElem?_take, ht, if_true] at h3
  rw [Array.getElem?_toList] at h3
  have hl : t < dk.toList.length * 2 := by simp [hn]; exact ht
  have hd : t / 2 < dk.size := by omega
  rw [h3, flat_get _ t hl z53, List.getD_eq_getElem?_getD, Array.getElem?_toList, Array.getElem?_eq_getElem hd, getElem!_pos dk _ hd]
  rfl
theorem Row.of (hk : Kept w W (fun k => k = g)) (hbl : Below g w W) {cur : Array Value} (hb : W.heap[g]? = some (.cells cur 53 (0, 0))) (hs : cur.size = cap * 2) (hn : dk.size = n) (hc : ∀ t, t < n * 2 → cur[t]? = some (encP dk[t / 2]!)[t % 2]!) : Row w W g cap n dk := by
  refine ⟨hn, ⟨cur, hb, hs, ?_⟩, hk, hbl⟩
  apply List.ext_getElem?
  intro t
  rw [List.getElem?_take]
  by_cases ht : t < n * 2
  · have hl : t < dk.toList.length * 2 := by simp [hn]; exact ht
    have hd : t / 2 < dk.size := by omega
    rw [if_pos ht, Array.getElem?_toList, hc t ht, flat_get _ t hl z53, List.getD_eq_getElem?_getD, Array.getElem?_toList, Array.getElem?_eq_getElem hd, getElem!_pos dk _ hd]
    rfl
  · rw [if_neg ht, List.getElem?_eq_none (by rw [flat_len]; simp [hn]; omega)]
theorem Row.set (h : Row w W g cap n dk) (hg : g < w.heap.size) (j : Nat) (hj : j < n) (hcap : n ≤ cap) (x : S53) : Row w ((W.setCell ⟨g, j * 2, none⟩ (.int .i64 x.f0)).setCell ⟨g, j * 2 + 1, none⟩ (.int .i64 x.f1)).drew g cap n (dk.setIfInBounds j x) := by
  obtain ⟨cur, hb, hs, ht⟩ := h.blk
  have h1 := blk_put hb (j * 2) (.int .i64 x.f0) rfl
  have h2 := blk_put h1 (j * 2 + 1) (.int .i64 x.f1) rfl
  refine Row.of (cur := (cur.setIfInBounds (j * 2) (.int .i64 x.f0)).setIfInBounds (j * 2 + 1) (.int .i64 x.f1)) ((h.kept.setCell (.inl rfl) _).setCell (.inl rfl) _) ?_ h2 (by simpa using hs) (by simpa using h.size) (fun t htl => ?_)
  · have := (h.below.setCell (p := ⟨g, j * 2, none⟩) (Nat.le_refl _) (.int .i64 x.f0)).setCell (p := ⟨g, j * 2 + 1, none⟩) (Nat.le_refl _) (.int .i64 x.f1)
    exact this.drew
  · have hn := h.size
    have hd : t / 2 < dk.size := by omega
    have hdk : (dk.setIfInBounds j x)[t / 2]! = if j = t / 2 then x else dk[t / 2]! := by
      rw [getElem!_pos _ _ (by simpa using hd), Array.getElem_setIfInBounds]
      rw [getElem!_pos dk _ hd]
    rw [hdk, Array.getElem?_setIfInBounds, Array.getElem?_setIfInBounds]
    by_cases e1 : j * 2 + 1 = t
    · subst e1
      rw [if_pos rfl, if_pos (by simp; omega), if_pos (by omega), show (j * 2 + 1) % 2 = 1 by omega]
      rfl
    · rw [if_neg e1]
      by_cases e2 : j * 2 = t
      · subst e2
        rw [if_pos rfl, if_pos (by omega), if_pos (by omega), show j * 2 % 2 = 0 by omega]
        rfl
      · rw [if_neg e2, if_neg (by omega)]
        exact h.get hb t htl
theorem Row.clear_ (h : Row w W g cap n dk) (hg : g < w.heap.size) (kk : Nat) (hk : kk < n) (hcap : n ≤ cap) : ∃ W2 dk2, (∀ ty c, (Builtin.clear_ #[51] ty #[.slice (some ⟨g, kk * 2, none⟩) (n - kk) c]).run Try.prog W = .ok (.tuple #[]) W2) ∧ Row w W2 g cap n dk2 ∧ ∀ j, j < kk → dk2[j]! = dk[j]! := by
  obtain ⟨cur, hb, hs, ht⟩ := h.blk
  have hz : ∀ w, (zeroValue 53).run Try.prog w = .ok (.agg #[.int .i64 0, .int .i64 0]) w := Try.zeroValue53
  let vs := (Builtin.zeroCells #[Value.int .i64 0, Value.int .i64 0] (n - kk)).toList
  have hvl : vs.length = (n - kk) * 2 := by simp [vs, Builtin.zeroCells]
  have hv : ∀ t, t < (n - kk) * 2 → vs[t]? = some (.int .i64 0) := by
    intro t htl
    simp only [vs, Builtin.zeroCells, Array.toList_map, List.getElem?_map]
    rw [Array.getElem?_toList, Array.getElem?_eq_getElem (by simpa using htl)]
    simp only [Option.map_some, Array.getElem_range]
    have : t % 2 < 2 := Nat.mod_lt _ (by decide)
    rcases Nat.mod_two_eq_zero_or_one t with e | e <;> simp [e]
  have hst := run_storeCells_at (P := Try.prog) g (kk * 2) 53 vs 0 cur W hb (by rw [hvl, hs]; omega) (by
    intro v hv'
    obtain ⟨i, hi, rfl⟩ := List.getElem_of_mem hv'
    have := hv i (by omega)
    rw [List.getElem?_eq_getElem hi] at this
    rw [Option.some.inj this]
    rfl)
  refine ⟨W.setRow g (cur.toList.take (kk * 2 + 0) ++ vs ++ cur.toList.drop (kk * 2 + 0 + vs.length)).toArray, ((dk.toList.take kk) ++ List.replicate (n - kk) z53).toArray, fun ty c => ?_, Row.of ?_ ?_ (set_row_at hb) ?_ ?_ (fun t htl => ?_), fun j hj => ?_⟩
  · obtain ⟨m, hm⟩ : ∃ m, n - kk = m + 1 := ⟨n - kk - 1, by omega⟩
    simp only [vs] at hst
    rw [hm] at hst ⊢
    simp [Builtin.clear_, run_underlying Try.underlying51, hz, Value.cells, hst, vs, hm]
  · exact h.kept.then_ (S2 := fun k => k = g) ⟨by simp [World.setRow], fun i hi hn => setRow_other W g i _ hn⟩ (fun k hk => .inl hk)
  · exact set_row_below _ h.below (Nat.le_refl _)
  · rw [List.size_toArray, List.length_append, List.length_append, List.length_take, List.length_drop, hvl, Array.length_toList, hs]; omega
  · have := h.size
    simp; omega
  · have hn := h.size
    have hdk : (((dk.toList.take kk) ++ List.replicate (n - kk) z53).toArray)[t / 2]! = if t / 2 < kk then dk[t / 2]! else z53 := by
      rw [getElem!_pos _ _ (by simp; omega)]
      simp only [List.getElem_toArray]
      by_cases e : t / 2 < kk
      · rw [if_pos e, List.getElem_append_left (by simp; omega), getElem!_pos dk _ (by omega)]
        simp
      · rw [if_neg e, List.getElem_append_right (by simp; omega)]
        simp
    rw [hdk]
    simp only [List.getElem?_toArray, Nat.add_zero]
    by_cases e : t / 2 < kk
    · rw [if_pos e, List.append_assoc, List.getElem?_append_left (by simp; omega), List.getElem?_take, if_pos (by omega), Array.getElem?_toList]
      exact h.get hb t htl
    · rw [if_neg e, List.append_assoc, List.getElem?_append_right (by simp; omega), List.getElem?_append_left (by rw [hvl]; simp; omega)]
      rw [hv _ (by simp; omega)]
      show _ = some (encP z53)[t % 2]!
      rcases Nat.mod_two_eq_zero_or_one t with e | e
      · rw [e]; rfl
      · rw [e]; rfl
  · have hn := h.size
    rw [getElem!_pos _ _ (by simp; omega), getElem!_pos dk _ (by omega)]
    simp only [List.getElem_toArray]
    rw [List.getElem_append_left (by simp; omega)]
    simp
end
set_option maxRecDepth 100000 in
theorem eq53in (d : Nat) (x y : S53) (w : World) : Sem.run Try.prog (Op.equalIn (d + 1 + 1) 53 (.agg #[.int .i64 x.f0, .int .i64 x.f1]) (.agg #[.int .i64 y.f0, .int .i64 y.f1])) w = .ok (x.f0 == y.f0 && x.f1 == y.f1) w := by
  have hu53 := Try.underlying53
  have hu3 := Try.underlying3
  have hz3 := Try.sizeOf3
  have ha3 := Try.isAgg3
  have e0 : ∀ w, (Op.equalIn (d + 1) 3 (.int .i64 x.f0) (.int .i64 y.f0)).run Try.prog w = .ok (x.f0 == y.f0) w := fun w => run_equalIn_int w d 3 .i64 .i64 _ _ hu3
  have e1 : ∀ w, (Op.equalIn (d + 1) 3 (.int .i64 x.f1) (.int .i64 y.f1)).run Try.prog w = .ok (x.f1 == y.f1) w := fun w => run_equalIn_int w d 3 .i64 .i64 _ _ hu3
  have p0 : ∀ (a b : Int) w, (part 3 #[.int .i64 a, .int .i64 b] 0).run Try.prog w = .ok (.int .i64 a) w := fun a b w => by go_simp
  have p1 : ∀ (a b : Int) w, (part 3 #[.int .i64 a, .int .i64 b] 1).run Try.prog w = .ok (.int .i64 b) w := fun a b w => by go_simp
  rw [Op.equalIn]
  simp only [Sem.run_bind, run_underlying hu53, Result.andThen_ok, hz3]
  rw [Std.Legacy.Range.forIn_eq_forIn_range']
  rw [show List.range' (Std.Legacy.Range.start [:2]) (Std.Legacy.Range.size [:2]) (Std.Legacy.Range.step [:2]) = [0, 1] from rfl]
  rw [List.forIn_cons, Sem.run_bind]
  simp only [Sem.run_bind, Nat.zero_mul, p0, Result.andThen_ok, e0]
  cases h0 : x.f0 == y.f0
  · simp [Result.andThen_ok, Sem.run_pure]
  · simp only [Bool.not_true, Bool.false_eq_true, if_false, Sem.run_pure, Result.andThen_ok]
    rw [List.forIn_cons, Sem.run_bind]
    simp only [Sem.run_bind, Nat.one_mul, p1, Result.andThen_ok, e1]
    cases h1 : x.f1 == y.f1
    · simp [Result.andThen_ok, Sem.run_pure]
    · simp [Result.andThen_ok, Sem.run_pure]
theorem eq_dec (x y : S53) : (x.f0 == y.f0 && x.f1 == y.f1) = decide (x = y) := by
  cases x; cases y
  simp only [S53.mk.injEq, Bool.decide_and]
  rfl
theorem eq53 (x y : S53) (w : World) : Sem.run Try.prog (binOp .eql 53 (.agg #[.int .i64 x.f0, .int .i64 x.f1]) (.agg #[.int .i64 y.f0, .int .i64 y.f1])) w = .ok (.bool (decide (x = y))) w := by
  rw [← eq_dec]
  go_simp
  rw [show (10000 : Nat) = 9998 + 1 + 1 from rfl, eq53in]
  rfl
theorem ne53 (x y : S53) (w : World) : Sem.run Try.prog (binOp .neq 53 (.agg #[.int .i64 x.f0, .int .i64 x.f1]) (.agg #[.int .i64 y.f0, .int .i64 y.f1])) w = .ok (.bool (!decide (x = y))) w := by
  rw [← eq_dec]
  go_simp
  rw [show (10000 : Nat) = 9998 + 1 + 1 from rfl, eq53in]
  simp [Result.andThen]
theorem guard53 (op : BinOp) (a b : Operand) (x y : S53) (w : World) : Sem.run Try.prog (eqGuard op 53 a b (.agg #[.int .i64 x.f0, .int .i64 x.f1]) (.agg #[.int .i64 y.f0, .int .i64 y.f1])) w = .ok () w :=
  run_eqGuard_agg w op 53 a b _ _ (by kernel_rfl)
def compact_pairs.f (l : List S53) : Option (List S53) := if l.length ≤ 100000 then some (Lib.compact l) else none
set_option maxHeartbeats 4000000 in
set_option maxRecDepth 100000 in
theorem compact_walk (w : World) (g cap : Nat) (d : Array S53) (hgw : g < w.heap.size) (hR : Row w w g cap d.size d) (hlen : d.size ≤ 100000) (hcap : d.size ≤ cap) (hcm : cap ≤ 9223372036854775807) :
    Calls Try.prog 33 #[.slice (some ⟨g, 0, none⟩) d.size cap] w fun e w' => e = .returned (.slice (some ⟨g, 0, none⟩) (Lib.compactUpTo d d.size).length cap) ∧ ∃ dk, Row w w' g cap d.size dk ∧ ∀ j, j < (Lib.compactUpTo d d.size).length → (Lib.compactUpTo d d.size)[j]? = some dk[j]! := by
  have HR := Aside0.mk hR
  have HL := Aside0.mk hlen
  have HGW := Aside0.mk hgw
  have HCAP := Aside0.mk hcap
  have hu53 := Try.underlying53
  have hu51 := Try.underlying51
  have heq := eq53
  have hne := ne53
  have hgd := guard53
  have mixed : Try.prog.follows .mixedOrders = true := by kernel_rfl
  clear hR
  by_cases h2 : d.size < 2
  · go_enter Try.func33, Try.ntmps33
    go_wp2
    go_ret
    have e : Lib.compactUpTo d d.size = d.toList := by rw [Lib.compactUpTo_all d _ (fun j hj => Lib.keeps_lt_one d j (by omega)), Lib.range_map_get]
    refine ⟨by rw [e]; rfl, d, HR.out, fun j hj => ?_⟩
    rw [e] at hj ⊢
    simp only [Array.length_toList] at hj
    rw [Array.getElem?_toList, Array.getElem?_eq_getElem hj, getElem!_pos d j hj]
  · have H2 := Aside0.mk h2
    go_enter Try.func33, Try.ntmps33
    go_wp2
    go_loopg [3] d.size (fun kq s3 wr => ∃ k : Nat, s3 = .int .i64 (k : Int) ∧ Aside0 (1 ≤ k) ∧ Aside0 (k ≤ d.size) ∧ Aside0 (d.size - k ≤ kq) ∧ Aside0 (Row w wr g cap d.size d) ∧ Aside0 (∀ j, j < k → Lib.keeps d j = true))
    case atStart => exact ⟨1, rfl, ⟨Nat.le_refl _⟩, ⟨by omega⟩, ⟨by omega⟩, HR, ⟨Lib.keeps_lt_one d⟩⟩
    case round =>
      obtain ⟨k, rfl, HK1, HK, HG, HR, HA⟩ := hrel
      have hk1 := HK1.out
      by_cases hlt : k < d.size
      · obtain ⟨c1, c1'⟩ := HR.out.at k hlt
        obtain ⟨c0, c0'⟩ := HR.out.at (k - 1) (by omega)
        have HLT := Aside0.mk hlt
        generalize hx : d[k]! = x at c1 c1'
        generalize hy : d[k - 1]! = y at c0 c0'
        have HXY := Aside0.mk (And.intro hx hy)
        clear hx hy
        by_cases hdup : x = y
        · subst hdup
          go_wp2_with fail
          go_region_o
          all_goals go_wp2
          clear c0 c1 c0' c1'
          have HR1 := Aside0.mk (HR.out.drawn ⟨⟨1, rfl⟩⟩)
          go_loopg [3, 5] d.size (fun kq s3 s5 w' => ∃ (kk k2 : Nat) (dk : Array S53), s3 = .int .i64 (kk : Int) ∧ s5 = .int .i64 (k2 : Int) ∧ Aside0 (1 ≤ k2) ∧ Aside0 (k + k2 ≤ d.size) ∧ Aside0 (d.size - (k + k2) ≤ kq) ∧ Aside0 (Row w w' g cap d.size dk) ∧ Aside0 (Lib.CompInv d (k + k2) kk dk))
          case atStart => exact ⟨k, 1, d, rfl, rfl, ⟨Nat.le_refl _⟩, ⟨HLT.out⟩, ⟨by omega⟩, HR1, ⟨Lib.CompInv.start HA.out (Lib.keeps_neg (by omega) (by rw [HXY.out.1, HXY.out.2]))⟩⟩
          case round =>
            clear HR HR1
            obtain ⟨kk, k2, dk, rfl, rfl, HQ1, HQ2, HG2, HR, HI⟩ := hrel
            have hkk := HI.out.lt
            have hds := HI.out.size
            have hq1 := HQ1.out
            by_cases hlt2 : k + k2 < d.size
            · obtain ⟨cm, cm'⟩ := HR.out.at (k + k2) hlt2
              obtain ⟨cp, cp'⟩ := HR.out.at (k + k2 - 1) (by omega)
              obtain ⟨ck, ck'⟩ := HR.out.at kk (by omega)
              have fk := HR.out.frozen (kk * 2)
              have fk' := HR.out.frozen (kk * 2 + 1)
              have HLT2 := Aside0.mk hlt2
              rw [HI.out.high (k + k2) (by omega), show (k + k2) * 2 = k * 2 + k2 * 2 by omega] at cm cm'
              rw [HI.out.high (k + k2 - 1) (by omega), show (k + k2 - 1) * 2 = k * 2 + (k2 - 1) * 2 by omega] at cp cp'
              generalize hu : d[k + k2]! = u at cm cm'
              generalize hv : d[k + k2 - 1]! = v at cp cp'
              generalize dk[kk]! = old at ck ck'
              have HUV := Aside0.mk (And.intro hu hv)
              clear hu hv
              by_cases huv : u = v
              · subst huv
                go_wp2_with fail
                go_region_o
                all_goals go_wp2
                go_roundg (d.size - (k + (k2 + 1)))
                case measure => have := HG2.out; have := HLT2.out; omega
                case rel => exact ⟨kk, k2 + 1, dk, rfl, by go_num, ⟨by omega⟩, ⟨by have := HLT2.out; omega⟩, ⟨Nat.le_refl _⟩, ⟨HR.out.drawn ⟨⟨1, rfl⟩⟩⟩, ⟨HI.out.skip (Lib.keeps_neg (by omega) (by rw [HUV.out.1, HUV.out.2]))⟩⟩
              · go_wp2_with fail
                go_region_o
                all_goals go_wp2
                go_roundg (d.size - (k + (k2 + 1)))
                case measure => have := HG2.out; have := HLT2.out; omega
                case rel => exact ⟨kk + 1, k2 + 1, dk.setIfInBounds kk u, by go_num, by go_num, ⟨by omega⟩, ⟨by have := HLT2.out; omega⟩, ⟨Nat.le_refl _⟩, ⟨HR.out.set HGW.out kk (by have := HLT2.out; omega) HCAP.out u⟩, ⟨by have := HI.out.keep HLT2.out (Lib.keeps_pos (by rw [HUV.out.1, HUV.out.2]; exact huv)); rwa [HUV.out.1] at this⟩⟩
            · have hend : k + k2 = d.size := by have := HQ2.out; omega
              obtain ⟨W2, dk2, hcl, hR2, hpre⟩ := HR.out.clear_ HGW.out kk (by omega) HCAP.out
              have HCL := Aside0.mk hR2
              have HPRE := Aside0.mk hpre
              have HEND := Aside0.mk hend
              have hkd : kk < d.size := by omega
              have hkc : kk < cap := by omega
              have hkle : kk ≤ d.size := by omega
              clear hR2 hpre hend hkk
              go_wp2
              go_ret
              have hI := HI.out
              rw [HEND.out] at hI
              refine ⟨by rw [hI.len]; rfl, dk2, HCL.out, fun j hj => ?_⟩
              rw [hI.len] at hj
              rw [HPRE.out j hj]
              exact hI.low j hj
        · have hq := decide_eq_false hdup
          go_wp2_with fail
          go_region_o
          all_goals go_wp2
          go_roundg (d.size - (k + 1))
          case measure => have := HG.out; have := HLT.out; omega
          case rel => exact ⟨k + 1, by simp, ⟨by omega⟩, HLT, ⟨Nat.le_refl _⟩, ⟨HR.out.drawn ⟨⟨1, rfl⟩⟩⟩, ⟨fun j hj => by
            by_cases e : j = k
            · subst e; exact Lib.keeps_pos (by rw [HXY.out.1, HXY.out.2]; exact hdup)
            · exact HA.out j (by omega)⟩⟩
      · have e : k = d.size := by have := HK.out; omega
        have HE := Aside0.mk e
        clear e
        go_wp2
        go_ret
        have hall : ∀ j, j < d.size → Lib.keeps d j = true := fun j hj => HA.out j (by rw [HE.out]; exact hj)
        have e2 : Lib.compactUpTo d d.size = d.toList := by rw [Lib.compactUpTo_all d _ hall, Lib.range_map_get]
        refine ⟨by rw [e2]; rfl, d, HR.out, fun j hj => ?_⟩
        rw [e2] at hj ⊢
        simp only [Array.length_toList] at hj
        rw [Array.getElem?_toList, Array.getElem?_eq_getElem hj, getElem!_pos d j hj]
set_option maxHeartbeats 4000000 in
set_option maxRecDepth 100000 in
theorem compact_nil (w : World) : Calls Try.prog 33 #[.slice none 0 0] w fun e w' => e = .returned (.slice none 0 0) ∧ w' = w := by
  go_enter Try.func33, Try.ntmps33
  go_wp2
  go_ret
  exact ⟨rfl, rfl⟩
theorem compactUpTo_len (d : Array S53) : ∀ m, (Lib.compactUpTo d m).length ≤ m
  | 0 => by simp [Lib.compactUpTo]
  | m + 1 => by
    have := compactUpTo_len d m
    rw [Lib.compactUpTo_succ, List.length_append]
    split <;> simp <;> omega
theorem compact_pairs.calls (P0_ : Nat → Prop) (u9000_ : Value) (l0 : List S53) (r : List S53) (w0 w : World) (hB : Below w0.heap.size w0 w) (ho0 : Kd.R k53 53 w w0.heap.size P0_ u9000_ l0) (h : compact_pairs.f l0 = some r) :
    Calls Try.prog 33 #[u9000_] w fun e w' => ∃ v0_ : Value, e = .returned v0_ ∧ Kd.R k53 53 w' w0.heap.size (fun k_ => (P0_ k_ ∨ w.heap.size ≤ k_)) v0_ r ∧ Below w0.heap.size w0 w' ∧ Kept w w' (fun k_ => P0_ k_) := by
  have hlim0 : l0.length ≤ 100000 := by
    by_cases hq : l0.length ≤ 100000
    · exact hq
    · unfold compact_pairs.f at h; rw [if_neg hq] at h; cases h
  unfold compact_pairs.f at h
  rw [if_pos hlim0] at h
  obtain rfl := Option.some.inj h
  obtain ⟨hP, inner, ⟨hlen, hrow⟩, hreps⟩ := ho0
  rcases hrow with ⟨rfl, hn⟩ | ⟨g, cap, cur, rfl, hg, hh, hn, hc, hs, ht⟩
  · obtain rfl := List.eq_nil_of_length_eq_zero hn
    refine (compact_nil w).mono ?_
    rintro e w' ⟨he, rfl⟩
    exact ⟨_, he, Kd.R_nil _ _ _ _ _, hB, Kept.refl _ _⟩
  · have hin := reps_flat hreps
    subst hin
    have e1 : (k53 : Kd S53).sz = 2 := rfl
    rw [e1] at ht hs
    have hR : Row w w g cap l0.toArray.size l0.toArray := ⟨rfl, ⟨cur, hh, hs, by simpa using ht⟩, Kept.refl _ _, Below.refl _ _⟩
    have hw := compact_walk w g cap l0.toArray (blk_lt hh) hR (by simpa using hlim0) (by simpa using hn) (by unfold maxLen at hc; omega)
    refine hw.mono ?_
    rintro e w' ⟨he, dk, hR2, hpre⟩
    have hm : (Lib.compact l0).length ≤ l0.length := compactUpTo_len l0.toArray l0.length
    obtain ⟨cur2, hb2, hs2, ht2⟩ := hR2.blk
    have hds : dk.size = l0.length := by rw [hR2.size]; simp
    refine ⟨_, he, ⟨fun k hk => .inl (hP k hk), flat (Lib.compact l0), ⟨by rw [flat_len]; rfl, .inr ⟨g, cap, cur2, ?_, hg, hb2, by omega, hc, hs2.trans rfl, ?_⟩⟩, flat_reps _⟩, hB.trans (hR2.below.mono hg), hR2.kept.mono (fun k hk => hk ▸ hP g rfl)⟩
    · show Value.slice _ (Lib.compactUpTo l0.toArray l0.toArray.size).length cap = _
      rfl
    · rw [e1]
      apply List.ext_getElem?
      intro t
      rw [List.getElem?_take]
      by_cases htl : t < (Lib.compact l0).length * 2
      · rw [if_pos htl, flat_get _ t htl z53]
        have h3 := hR2.get hb2 t (by simp; omega)
        rw [Array.getElem?_toList, h3]
        have h4 := hpre (t / 2) (show t / 2 < (Lib.compact l0).length by omega)
        have h5 : (Lib.compact l0)[t / 2]? = some dk[t / 2]! := h4
        rw [List.getD_eq_getElem?_getD, h5]
        rfl
      · rw [if_neg htl, List.getElem?_eq_none (by rw [flat_len]; omega)]
#print axioms compact_pairs.calls
end Go.Proofs.Ytfkilcegdajdcaa.PZ
