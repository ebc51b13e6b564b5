
/- strata.each with whatever function value: it hands on each literal with each name that it uses. -/
import Derived.Test.YtfkilcegdajdcaaPZx0
import Derived.Test.YtfkilcegdajdcaaPZx1
import Derived.Test.YtfkilcegdajdcaaGStore
import Derived.Shelf.Abstract
namespace Go.Proofs.Ytfkilcegdajdcaa.PZ
open Go.RowKit Go.Proofs.YtfkilcegdajdcaaW.PrintWords Go.Proofs.YtfkilcegdajdcaaW.PrintLast Go.Proofs.YtfkilcegdajdcaaW.PrintMore
set_option linter.unusedVariables false
set_option linter.unusedSimpArgs false
def usesOf (K : Nat) (x : S46) : Option (List ByteArray) := strata_Uses.f K x.f0 x.f1.f0 x.f1.f1 x.f2 x.f3.f0 x.f3.f1.f0 x.f3.f1.f1 x.f3.f1.f2 x.f4.f0 x.f4.f1.f0 x.f4.f1.f1 x.f4.f1.f2 x.f5.f0 x.f5.f1.f0 x.f5.f1.f1 x.f5.f1.f2 x.f6
def usesL (K : Nat) : List S46 → Option (List (S46 × ByteArray))
  | [] => some []
  | x :: t => (usesOf K x).bind fun u => (usesL K t).bind fun r => some (u.map (fun s => (x, s)) ++ r)
theorem usesL_mono (k : Nat) : ∀ body, LeO (usesL k body) (usesL (k + 1) body)
  | [] => LeO.refl _
  | x :: t => by
    unfold usesL
    exact LeO.bind (strata_Uses.mono _ _ _ _ _ _ _ _ _ _ _ _ _ _ _ _ _ k) (fun _ => LeO.bind (usesL_mono k t) (fun _ => LeO.refl _))
theorem usesOf_calls {K : Nat} {x : S46} {t : List ByteArray} (h : usesOf K x = some t) {w : World} {c : List Value} (hK : k46.K w x c) :
    Calls Try.prog 13 #[.agg c.toArray] w fun e w' => ∃ v : Value, e = .returned v ∧ Kd.R Kd.string 9 w' w.heap.size (fun _ => True) v t ∧ Below w.heap.size w w' := by
  obtain ⟨A2, c2, A16, c16, rfl, l2, g2, l16, g16⟩ := k46_open hK
  exact strata_Uses.calls K x.f0 x.f1.f0 _ _ x.f1.f1 x.f2 x.f3.f0 x.f3.f1.f0 x.f3.f1.f1 x.f3.f1.f2 x.f4.f0 x.f4.f1.f0 x.f4.f1.f1 x.f4.f1.f2 x.f5.f0 x.f5.f1.f0 x.f5.f1.f1 x.f5.f1.f2 _ _ x.f6 t w g2 l2 g16 l16 h
structure Takes (g : Nat) (lb : Array Value) (w0 : World) (all : List (S46 × ByteArray)) (I : List (S46 × ByteArray) → (Nat → Prop) → World → Prop) : Prop where
  enters : ∀ args w, (callFunc g args).run Try.prog w = .ok (.enter g args) w
  move : ∀ d ok W W', I d ok W → W.heap.size ≤ W'.heap.size → (∀ k, ok k → W'.heap[k]? = W.heap[k]?) → I d ok W'
  lt : ∀ d ok W, I d ok W → ∀ k, ok k → k < W.heap.size
  step : ∀ d ok W x s rest cs, I d ok W → Below w0.heap.size w0 W → all = d ++ (x, s) :: rest → k46.K W x cs →
    Calls Try.prog g (#[.agg cs.toArray, .string s] ++ lb) W fun e W' => e = .returned (.tuple #[]) ∧ Below w0.heap.size w0 W' ∧ ∃ ok', I (d ++ [(x, s)]) ok' W' ∧ Kept W W' ok ∧ ∀ k, ok' k → ok k ∨ W.heap.size ≤ k
def OutR (I : List (S46 × ByteArray) → (Nat → Prop) → World → Prop) (K : Nat) (all : List (S46 × ByteArray)) (body : List S46) (w : World) (ok0 : Nat → Prop) (n : Nat) (W : World) : Prop :=
  ∃ (ok : Nat → Prop) (d rest : List (S46 × ByteArray)), usesL K (body.drop n) = some rest ∧ all = d ++ rest ∧ I d ok W ∧ Kept w W ok0 ∧ ∀ k, ok k → ok0 k ∨ w.heap.size ≤ k
def InR (I : List (S46 × ByteArray) → (Nat → Prop) → World → Prop) (K : Nat) (all : List (S46 × ByteArray)) (body : List S46) (w : World) (ok0 : Nat → Prop) (n : Nat) (x : S46) (t : List ByteArray) (lw : Nat → Prop) (m : Nat) (W : World) : Prop :=
  ∃ (ok : Nat → Prop) (d rest : List (S46 × ByteArray)), usesL K (body.drop (n + 1)) = some rest ∧ all = d ++ ((t.drop m).map (fun s => (x, s)) ++ rest) ∧ I d ok W ∧ Kept w W ok0 ∧ (∀ k, ok k → ok0 k ∨ w.heap.size ≤ k) ∧ ∀ k, ok k → ¬ lw k
section
variable {g : Nat} {lb : Array Value} {w0 : World} {all : List (S46 × ByteArray)} {I : List (S46 × ByteArray) → (Nat → Prop) → World → Prop} (T : Takes g lb w0 all I) {K : Nat} {body : List S46} {w : World} {ok0 : Nat → Prop}
theorem drop_at (body : List S46) (n : Nat) (hn : n < body.length) : body.drop n = body.getD n z46 :: body.drop (n + 1) := by
  rw [List.drop_eq_getElem_cons hn, List.getD_eq_getElem?_getD, List.getElem?_eq_getElem hn]
  rfl
theorem outR_uses {n : Nat} {W : World} (h : OutR I K all body w ok0 n W) (hn : n < body.length) : ∃ t, usesOf K (body.getD n z46) = some t := by
  obtain ⟨ok, d, rest, hr, _⟩ := h
  rw [drop_at body n hn] at hr
  obtain ⟨u, h1, _⟩ := Option.bind_eq_some_iff.1 hr
  exact ⟨u, h1⟩
theorem inR_out {n m : Nat} {x : S46} {t : List ByteArray} {lw : Nat → Prop} {W : World} (h : InR I K all body w ok0 n x t lw m W) (hm : t.length ≤ m) : OutR I K all body w ok0 (n + 1) W := by
  obtain ⟨ok, d, rest, hr, ha, hI, hk0, ho, hl⟩ := h
  refine ⟨ok, d, rest, hr, ?_, hI, hk0, ho⟩
  rw [ha, List.drop_eq_nil_of_le hm]
  rfl
theorem outR_end {n : Nat} {W : World} (h : OutR I K all body w ok0 n W) (hn : body.length ≤ n) : ∃ ok', I all ok' W ∧ Kept w W ok0 ∧ ∀ k, ok' k → ok0 k ∨ w.heap.size ≤ k := by
  obtain ⟨ok, d, rest, hr, ha, hI, hk0, ho⟩ := h
  rw [List.drop_eq_nil_of_le hn] at hr
  obtain rfl := Option.some.inj hr
  rw [List.append_nil] at ha
  subst ha
  exact ⟨ok, hI, hk0, ho⟩
include T
theorem outR_start (hI : I [] ok0 w) (hu : usesL K body = some all) {W : World} (hb : Below w.heap.size w W) : OutR I K all body w ok0 0 W :=
  ⟨ok0, [], all, hu, rfl, T.move _ _ _ _ hI hb.size (fun k hk => hb.block k (T.lt _ _ _ hI k hk)), Kept.of_below hb _, fun k hk => .inl hk⟩
theorem outR_in {n : Nat} {W W' : World} (h : OutR I K all body w ok0 n W) (hb : Below W.heap.size W W') (hn : n < body.length) {t : List ByteArray} (ht : usesOf K (body.getD n z46) = some t) (lw : Nat → Prop) (hl : ∀ k, lw k → W.heap.size ≤ k) :
    InR I K all body w ok0 n (body.getD n z46) t lw 0 W' := by
  obtain ⟨ok, d, rest, hr, ha, hI, hk0, ho⟩ := h
  rw [drop_at body n hn] at hr
  simp only [usesL] at hr
  rw [ht, Option.bind_some] at hr
  obtain ⟨r2, h1, h2⟩ := Option.bind_eq_some_iff.1 hr
  refine ⟨ok, d, r2, h1, ?_, T.move _ _ _ _ hI hb.size (fun k hk => hb.block k (T.lt _ _ _ hI k hk)), hk0.below hb, ho, fun k hk hlw => ?_⟩
  · rw [ha, ← Option.some.inj h2, List.drop_zero]
  · have := T.lt _ _ _ hI k hk
    have := hl k hlw
    omega
theorem inR_step {n m : Nat} {x : S46} {t : List ByteArray} {lw : Nat → Prop} {W : World} (h : InR I K all body w ok0 n x t lw m W) (hm : m < t.length) (hB : Below w0.heap.size w0 W) (hlw : ∀ k, lw k → k < W.heap.size) {cs : List Value} (hc : k46.K W x cs) :
    Calls Try.prog g (#[.agg cs.toArray, .string (rdOf ByteArray.empty t (m : Int))] ++ lb) W fun e W' => e = .returned (.tuple #[]) ∧ Below w0.heap.size w0 W' ∧ Kept W W' (fun k => ¬ lw k) ∧ InR I K all body w ok0 n x t lw (m + 1) W' := by
  obtain ⟨ok, d, rest, hr, ha, hI, hk0, ho, hl⟩ := h
  have e : t.drop m = rdOf ByteArray.empty t (m : Int) :: t.drop (m + 1) := by
    rw [List.drop_eq_getElem_cons hm]
    unfold rdOf
    rw [Int.toNat_natCast, List.getD_eq_getElem?_getD, List.getElem?_eq_getElem hm]
    rfl
  rw [e, List.map_cons, List.cons_append] at ha
  refine (T.step d ok W _ _ _ cs hI hB ha hc).mono ?_
  rintro e W' ⟨he, hb, ok', hI', hkp, hn'⟩
  refine ⟨he, hb, hkp.mono (fun k hk => hl k hk), ok', _, rest, hr, ?_, hI', hk0.then_ hkp ho, fun k hk => ?_, fun k hk hlk => ?_⟩
  · rw [ha, List.append_assoc]; rfl
  · rcases hn' k hk with h | h
    · exact ho k h
    · exact .inr (Nat.le_trans hk0.1 h)
  · rcases hn' k hk with h | h
    · exact hl k h hlk
    · have := hlw k hlk; omega
end
set_option maxHeartbeats 8000000 in
set_option maxRecDepth 100000 in
theorem strata_each.calls {g : Nat} {lb : Array Value} {w0 : World} {all : List (S46 × ByteArray)} {I : List (S46 × ByteArray) → (Nat → Prop) → World → Prop} (TK : Takes g lb w0 all I) (K : Nat) (p : ByteArray) (A1 : Option Addr) (c1 n1 : Nat) (fold : Int) (A3 : Option Addr) (c3 : Nat) (body : List S46) (w : World)
    (hB : Below w0.heap.size w0 w) (ok0 : Nat → Prop) (hI : I [] ok0 w) (hu : usesL K body = some all) (hr3 : Kd.C k46 w0 A3 body.length body) :
    Calls Try.prog 22 #[.agg #[.string p, .slice A1 n1 c1, .int .i64 fold, .slice A3 body.length c3], .func (.func g) #[] lb] w fun e w' => e = .returned (.tuple #[]) ∧ Below w0.heap.size w0 w' ∧ ∃ ok', I all ok' w' ∧ Kept w w' ok0 ∧ ∀ k, ok' k → ok0 k ∨ w.heap.size ≤ k := by
  have hu39 := Try.underlying39
  have hu46 := Try.underlying46
  have eg := TK.enters
  have HR3 := Aside0.mk hr3
  have HB := Aside0.mk hB
  have HI := Aside0.mk hI
  have HU := Aside0.mk hu
  have HM := Aside0.mk (Kd.C_max hr3)
  have HBW := Aside0.mk (Below.refl w.heap.size w)
  clear hr3 hB hI hu
  go_enter Try.func22, Try.ntmps22
  go_wp2_with (first | ((with_reducible refine gate_dst (N := 2) rfl ?_); refine box_event ?hg (N := 2) ?hd (cs := #[.string p, .slice A1 n1 c1, .int .i64 fold, .slice A3 body.length c3]) (t := 39) ?hr ?_; (case hd => rfl); (case hg => rfl); (case hr => first | (go_simp; done) | (go_simp; rfl)); intro gx hg w2 hbox hb; have n0_ := Aside0.mk (below_step HB.out hb); have n1_ := Aside0.mk (below_step HBW.out hb); clear HB HBW; have HB := n0_; have HBW := n1_; clear n0_ n1_; clear hb hg; have hcz : w2.cell? ⟨gx, 2 + 1, none⟩ = some (.slice A3 body.length c3) := (blk_cell hbox 3).trans rfl; have hcz' : w2.cell? ⟨gx, 3, none⟩ = some (.slice A3 body.length c3) := (blk_cell hbox 3).trans rfl; clear hbox))
  go_loopg [11] body.length (fun kq v11 w' => ∃ n : Nat, v11 = .int .i64 (n : Int) ∧ Aside0 (n ≤ body.length) ∧ Aside0 (body.length - n ≤ kq) ∧ Aside0 (Below w0.heap.size w0 w') ∧ Aside0 (OutR I K all body w ok0 n w'))
  case atStart => exact ⟨0, rfl, ⟨Nat.zero_le _⟩, ⟨Nat.le_refl _⟩, HB, ⟨outR_start TK HI.out HU.out HBW.out⟩⟩
  case round =>
    clear HB HBW HI HU hcz hcz'
    obtain ⟨n, rfl, HN, HK, HB, HO⟩ := hrel
    by_cases hlt : n < body.length
    · obtain ⟨ad, c, ea, hcl, hK, hc⟩ := Kd.C_get HR3.out z46 (n : Int) (by omega) (by omega)
      cases ea
      rw [Int.toNat_natCast] at hK hc
      have HLT := Aside0.mk hlt
      obtain ⟨t, ht⟩ := outR_uses HO.out hlt
      have HT := Aside0.mk ht
      have hcl' : c.length = 17 := hcl
      have HCL := Aside0.mk hcl'
      have HKC := Aside0.mk hK
      have HCC : Aside0 (∀ j u, c[j]? = some u → wr.cell? ((ad.add (n * 17)).add j) = some u) := ⟨fun j u hj => by
        have h := hc j u hj
        rw [add_add]
        exact (HB.out.cell (World.block_lt_of_cell? w0 _ h)).trans h⟩
      have HBR := Aside0.mk (Below.refl wr.heap.size wr)
      clear hK hc ht hcl hcl'
      go_wp2_with (first
        | ((with_reducible refine gate_dst (N := 14) rfl ?_); refine Kd.event_run rfl (load_cells (c := c) rfl rfl (Try.isAgg46 _) (by rw [HCL.out]; exact Try.sizeOf46 _) HCC.out) ?_)
        | ((with_reducible refine gate_dst (N := 5) rfl ?_); refine box_event ?hg (N := 5) ?hd (cs := zs46) (t := 46) ?hr ?_; (case hd => rfl); (case hg => rfl); (case hr => exact alloc46 rfl); intro gl hg w3 hbox hb; have n0_ := Aside0.mk (below_step HB.out hb); have n1_ := Aside0.mk (below_step HBR.out hb); have n2_ := Aside0.mk hbox; have n3_ : Aside0 (w0.heap.size ≤ gl) := ⟨by rw [hg]; exact HB.out.size⟩; have n4_ : Aside0 (wr.heap.size ≤ gl) := ⟨by rw [hg]; exact Nat.le_refl _⟩; clear HB HBR; have HB := n0_; have HBR := n1_; have BK := n2_; have GE := n3_; have GR := n4_; clear n0_ n1_ n2_ n3_ n4_; clear hb hg hbox)
        | ((with_reducible refine gate_store (t := 46) (p := 5) rfl ?_); refine store_event (t := 46) (p := 5) (v := ?vo_) (w1 := w3.setRow gl c.toArray) ?hg ?ho ?hn ?hr ?_; (case ho => rfl); (case hg => rfl); (case hn => rfl); (case hr => exact store_row rfl rfl rfl BK.out (by rw [List.size_toArray, HCL.out]; exact size46) (by show (17 : Nat) = c.toArray.size; rw [List.size_toArray, HCL.out]) (fun u hu => k46.K_one HKC.out u hu)); intro w4 hw; have n0_ : Aside0 (w4.heap[gl]? = some (.cells c.toArray 46 (0, 0))) := ⟨by rw [hw]; exact set_row_at BK.out⟩; have n1_ : Aside0 (Below w0.heap.size w0 w4) := ⟨by rw [hw]; exact set_row_below _ HB.out GE.out⟩; have n2_ : Aside0 (Below wr.heap.size wr w4) := ⟨by rw [hw]; exact set_row_below _ HBR.out GR.out⟩; clear hw; clear BK HB HBR; have BK := n0_; have HB := n1_; have HBR := n2_; clear n0_ n1_ n2_)
        | ((with_reducible refine gate_dst (N := 15) rfl ?_); refine Kd.event_run rfl (load_cells (c := c) rfl rfl (Try.isAgg46 _) (by rw [HCL.out]; exact Try.sizeOf46 _) (box_cells BK.out)) ?_)
        | (go_at_call 13; refine (usesOf_calls HT.out (k46.K_below (Below.mono HB.out (Nat.le_refl _)) HKC.out)).mono ?_; rintro e w5 ⟨v, rfl, ho, hb⟩; have n0_ := Aside0.mk (blk_below BK.out hb); have n1_ := Aside0.mk (below_step HB.out hb); have n2_ := Aside0.mk (below_step HBR.out hb); have n3_ : Aside0 (∀ k, v.ownBlock = some k → wr.heap.size ≤ k) := ⟨fun k e_ => Nat.le_trans HBR.out.size (Kd.R_base ho k e_)⟩; have n4_ := Aside0.mk (Kd.R_lower ho HB.out.size); clear BK HB HBR hb ho; have BK := n0_; have HB := n1_; have HBR := n2_; have HOU := n3_; have HOT := n4_; clear n0_ n1_ n2_ n3_ n4_; obtain ⟨Ao, co, eo⟩ := Kd.R_slice HOT.out; subst eo))
      go_loopg [18] t.length (fun kq v18 w' => ∃ m : Nat, v18 = .int .i64 (m : Int) ∧ Aside0 (m ≤ t.length) ∧ Aside0 (t.length - m ≤ kq) ∧ Aside0 (Below w0.heap.size w0 w') ∧ Aside0 (w'.heap[gl]? = some (.cells c.toArray 46 (0, 0))) ∧ Aside0 (Kd.R Kd.string 9 w' w0.heap.size (fun _ => True) (.slice Ao t.length co) t) ∧ Aside0 (InR I K all body w ok0 n (body.getD n z46) t (fun k_ => k_ = gl ∨ some k_ = (.slice Ao t.length co : Value).ownBlock) m w'))
      case atStart => exact ⟨0, rfl, ⟨Nat.zero_le _⟩, ⟨Nat.le_refl _⟩, HB, BK, HOT, ⟨outR_in TK HO.out HBR.out HLT.out HT.out _ (fun k_ hk_ => hk_.elim (fun e_ => e_ ▸ GR.out) (fun e_ => HOU.out k_ e_.symm))⟩⟩
      case round =>
        clear HB BK HOT HO HBR
        obtain ⟨m, rfl, HM2, HK2, HB, BK, HOT, HIN⟩ := hrel
        by_cases hlt2 : m < t.length
        · obtain ⟨ad2, ea2, hx2⟩ := Kd.at_string (Kd.R_reads' HOT.out).2.2 (m : Int) (by omega) (by omega)
          cases ea2
          rw [Int.toNat_natCast] at hx2
          have HLT2 := Aside0.mk hlt2
          have hby := inR_step TK HIN.out hlt2 HB.out (fun k_ hk_ => hk_.elim (fun e_ => e_ ▸ blk_lt BK.out) (fun e_ => Kd.R_lt HOT.out k_ e_.symm)) (k46.K_below (Below.mono HB.out (Nat.le_refl _)) HKC.out)
          have HBY := Aside0.mk hby
          clear hby
          go_wp2_with (first
            | ((with_reducible refine gate_dst (N := 23) rfl ?_); refine Kd.event_run rfl (load_cells (c := c) rfl rfl (Try.isAgg46 _) (by rw [HCL.out]; exact Try.sizeOf46 _) (box_cells BK.out)) ?_)
            | (go_at_fn g; refine (HBY.out).mono ?_; rintro e w6 ⟨rfl, hb, hkp, hin⟩; have n0_ := Aside0.mk (blk_kept BK.out hkp (fun h_ => h_ (.inl rfl))); have n1_ := Aside0.mk (Kd.R_mono (ok' := fun _ => True) (Kd.R_kept (Kd.R_tight rfl HOT.out) hkp (fun k_ hk_ h_ => h_ (.inr hk_))) (fun _ _ => trivial)); have n2_ := Aside0.mk hb; have n3_ := Aside0.mk hin; clear BK HOT HB HIN HBY; have BK := n0_; have HOT := n1_; have HB := n2_; have HIN := n3_; clear n0_ n1_ n2_ n3_; clear hb hkp hin))
          go_roundg (t.length - (m + 1))
          case measure => have := HK2.out; have := HLT2.out; omega
          case rel => exact ⟨m + 1, by have h := HLT2.out; have h2 := Kd.C_max (Kd.R_reads' HOT.out).2.2; simp; unfold wrap64; omega, ⟨HLT2.out⟩, ⟨Nat.le_refl _⟩, HB, BK, HOT, HIN⟩
        · have HE := Aside0.mk (show t.length ≤ m by omega)
          go_wp2
          go_roundg (body.length - (n + 1))
          case measure => have := HK.out; have := HLT.out; omega
          case rel => exact ⟨n + 1, by have h := HLT.out; have h2 := HM.out; simp; unfold wrap64; omega, ⟨HLT.out⟩, ⟨Nat.le_refl _⟩, HB, ⟨inR_out HIN.out HE.out⟩⟩
    · have HE := Aside0.mk (show body.length ≤ n by omega)
      go_wp2
      first | go_end0 | ((try simp only [Exit.inBlock, Exit.then]); refine bodyPost_ret (results_none rfl _ _ _) rfl ?_)
      exact ⟨by first | rfl | (simp; done), HB.out, outR_end HO.out HE.out⟩
#print axioms strata_each.calls
end Go.Proofs.Ytfkilcegdajdcaa.PZ
