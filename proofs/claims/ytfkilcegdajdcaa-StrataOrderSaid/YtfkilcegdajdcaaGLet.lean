
/- strata.Strata's question whether a rule has a Let: slices.ContainsFunc over its literals. -/
import Derived.Test.YtfkilcegdajdcaaPZx0
import Derived.Test.YtfkilcegdajdcaaGStore
import Derived.Shelf.Abstract
namespace Go.Proofs.Ytfkilcegdajdcaa.PZ
open Go.RowKit Go.Proofs.YtfkilcegdajdcaaW.PrintWords Go.Proofs.YtfkilcegdajdcaaW.PrintLast Go.Proofs.YtfkilcegdajdcaaW.PrintMore
set_option linter.unusedVariables false
set_option linter.unusedSimpArgs false
def isLet (x : S46) : Bool := x.f0 == 4
def idxL : List S46 → Nat → Int
  | [], _ => -1
  | x :: t, j => if isLet x = true then (j : Int) else idxL t (j + 1)
theorem idxL_neg : ∀ (l : List S46) (j : Nat), (0 ≤ idxL l j) ↔ l.any isLet = true
  | [], j => by simp [idxL]
  | x :: t, j => by
    unfold idxL
    by_cases h : isLet x = true
    · rw [if_pos h]; simp [h]
    · rw [if_neg h, idxL_neg t (j + 1)]; simp [h]
set_option maxHeartbeats 4000000 in
set_option maxRecDepth 100000 in
theorem let_closure (x : S46) (c : List Value) (W : World) (hK : k46.K W x c) : Calls Try.prog 21 #[.agg c.toArray] W fun e w' => e = .returned (.bool (isLet x)) ∧ Below W.heap.size W w' := by
  obtain ⟨A2, c2, A16, c16, rfl, _, _, _, _⟩ := k46_open hK
  clear hK
  go_enter Try.func21, Try.ntmps21
  go_wp2
  go_ret
  exact ⟨by unfold isLet; first | rfl | (simp; done), (Below.refl _ _).alloc (Nat.le_refl _) _⟩
theorem idx_at (l : List S46) (j : Nat) (hj : j < l.length) (r : Int) (h : idxL (l.drop j) j = r) : (isLet (l.getD j z46) = true → r = j) ∧ (isLet (l.getD j z46) = false → idxL (l.drop (j + 1)) (j + 1) = r) := by
  rw [List.drop_eq_getElem_cons hj] at h
  have e : l.getD j z46 = l[j] := by rw [List.getD_eq_getElem?_getD, List.getElem?_eq_getElem hj]; rfl
  rw [e]
  unfold idxL at h
  constructor
  · intro hl; rw [if_pos hl] at h; exact h.symm
  · intro hl; rw [if_neg (by rw [hl]; decide)] at h; exact h
set_option maxHeartbeats 4000000 in
set_option maxRecDepth 100000 in
theorem index_let (A : Option Addr) (c0 : Nat) (l : List S46) (w : World) (hr : Kd.C k46 w A l.length l) :
    Calls Try.prog 41 #[.slice A l.length c0, .func (.func 21) #[] #[]] w fun e w' => e = .returned (.int .i64 (idxL l 0)) ∧ Below w.heap.size w w' := by
  have HR := Aside0.mk hr
  have HM := Aside0.mk (Kd.C_max hr)
  obtain ⟨r, hr'⟩ : ∃ r, r = idxL l 0 := ⟨_, rfl⟩
  rw [← hr']
  have H0 := Aside0.mk hr'
  have HB := Aside0.mk (Below.refl w.heap.size w)
  have eg : ∀ args w, (callFunc 21 args).run Try.prog w = .ok (.enter 21 args) w := enters_of Try.func21 (by kernel_rfl) rfl
  clear hr hr'
  go_enter Try.func41, Try.ntmps41
  go_wp2
  go_loopg [8] l.length (fun kq v8 w' => ∃ j : Nat, v8 = .int .i64 (j : Int) ∧ Aside0 (j ≤ l.length) ∧ Aside0 (l.length - j ≤ kq) ∧ Aside0 (idxL (l.drop j) j = r) ∧ Aside0 (Below w.heap.size w w'))
  case atStart => exact ⟨0, rfl, ⟨Nat.zero_le _⟩, ⟨Nat.le_refl _⟩, ⟨by rw [List.drop_zero]; exact H0.out.symm⟩, HB⟩
  case round =>
    clear HB H0
    obtain ⟨j, rfl, HJ, HK, H, HB⟩ := hrel
    by_cases hlt : j < l.length
    · obtain ⟨ad, c, ea, hcl, hK, hc⟩ := Kd.C_get HR.out z46 (j : Int) (by omega) (by omega)
      cases ea
      rw [Int.toNat_natCast] at hK hc
      have HLT := Aside0.mk hlt
      have hcl' : c.length = 17 := hcl
      have HCL := Aside0.mk hcl'
      have hKr := k46.K_below HB.out hK
      have HCC : Aside0 (∀ j' u, c[j']? = some u → wr.cell? ((ad.add (j * 17)).add j') = some u) := ⟨fun j' u hj => by
        have h := hc j' u hj
        rw [add_add]
        exact (HB.out.cell (World.block_lt_of_cell? w _ h)).trans h⟩
      obtain ⟨h1, h2⟩ := idx_at l j hlt r H.out
      have H1 := Aside0.mk h1
      have H2 := Aside0.mk h2
      have hcall := let_closure (l.getD j z46) c wr hKr
      clear hK hc hcl hcl' h1 h2 hKr
      cases hb : isLet (l.getD j z46) with
      | true =>
        rw [hb] at hcall
        have HC := Aside0.mk hcall
        have E1 := Aside0.mk (H1.out hb)
        clear hcall H1 H2 hb
        go_wp2_with (first
          | ((with_reducible refine gate_dst (N := 15) rfl ?_); refine Kd.event_run rfl (load_cells (c := c) rfl rfl (Try.isAgg46 _) (by rw [HCL.out]; exact Try.sizeOf46 _) HCC.out) ?_)
          | (go_at_fn 21; refine (HC.out).mono ?_; rintro e w' ⟨rfl, hb'⟩))
        go_ret
        exact ⟨by rw [E1.out]; rfl, HB.out.trans (hb'.mono HB.out.size)⟩
      | false =>
        rw [hb] at hcall
        have HC := Aside0.mk hcall
        have E2 := Aside0.mk (H2.out hb)
        clear hcall H1 H2 hb
        go_wp2_with (first
          | ((with_reducible refine gate_dst (N := 15) rfl ?_); refine Kd.event_run rfl (load_cells (c := c) rfl rfl (Try.isAgg46 _) (by rw [HCL.out]; exact Try.sizeOf46 _) HCC.out) ?_)
          | (go_at_fn 21; refine (HC.out).mono ?_; rintro e w' ⟨rfl, hb'⟩))
        go_roundg (l.length - (j + 1))
        case measure => have := HK.out; have := HLT.out; omega
        case rel => exact ⟨j + 1, by have h := HLT.out; have h2 := HM.out; simp; unfold wrap64; omega, ⟨HLT.out⟩, ⟨Nat.le_refl _⟩, E2, ⟨HB.out.trans (hb'.mono HB.out.size)⟩⟩
    · have e : r = -1 := by
        have hj : j = l.length := by have := HJ.out; omega
        have := H.out
        rw [hj, List.drop_length] at this
        exact this.symm
      have E := Aside0.mk e
      clear e
      go_wp2
      go_ret
      exact ⟨by rw [E.out]; rfl, HB.out⟩
def contains_let.f (l : List S46) : Option Bool := some (l.any isLet)
set_option maxHeartbeats 4000000 in
theorem contains_let.calls (A : Option Addr) (c0 : Nat) (l : List S46) (r : Bool) (w : World) (hr : Kd.C k46 w A l.length l) (hc : l.length ≤ c0) (h : contains_let.f l = some r) :
    Calls Try.prog 20 #[.slice A l.length c0, .func (.func 21) #[] #[]] w fun e w' => e = .returned (.bool r) ∧ Below w.heap.size w w' := by
  obtain rfl := Option.some.inj h
  have HC := Aside0.mk (index_let A c0 l w hr)
  clear hr h hc
  have e : (l.any isLet) = decide (0 ≤ idxL l 0) := by
    rw [Bool.eq_iff_iff, decide_eq_true_iff, idxL_neg]
  rw [e]
  clear e
  go_enter Try.func20, Try.ntmps20
  go_wp2_with (go_at_call 41; refine (HC.out).mono ?_; rintro e w' ⟨rfl, hb⟩)
  go_ret
  exact ⟨rfl, hb⟩
#print axioms contains_let.calls
end Go.Proofs.Ytfkilcegdajdcaa.PZ
