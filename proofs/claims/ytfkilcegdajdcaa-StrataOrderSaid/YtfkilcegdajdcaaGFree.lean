
/- comps.Comps' function values: what 'free' answers, and slices.ContainsFunc over a predicate that may be partial: proved by hand. -/
import Derived.Test.YtfkilcegdajdcaaPZx0
import Derived.Shelf.Abstract
namespace Go.Proofs.Ytfkilcegdajdcaa.PZ
open Go.RowKit Go.Proofs.YtfkilcegdajdcaaW.PrintWords Go.Proofs.YtfkilcegdajdcaaW.PrintLast Go.Proofs.YtfkilcegdajdcaaW.PrintMore
set_option linter.unusedVariables false
set_option linter.unusedSimpArgs false
def idxO (p : Int → Option Bool) : List Int → Nat → Option Int
  | [], _ => some (-1)
  | x :: xs, j => (p x).bind fun b => if b = true then some (j : Int) else idxO p xs (j + 1)
def anyO (p : Int → Option Bool) (xs : List Int) : Option Bool := (idxO p xs 0).map fun i => decide (i ≥ 0)
def Pays (g : Nat) (lb : Array Value) (p : Int → Option Bool) (w : World) : Prop :=
  ∀ (W : World) (x : Int) (b : Bool), Below w.heap.size w W → p x = some b → Calls Try.prog g (#[.int .i64 x] ++ lb) W fun e w' => e = .returned (.bool b) ∧ Below W.heap.size W w'
theorem idx_drop (p : Int → Option Bool) (xs : List Int) (j : Nat) (r : Int) (hj : j < xs.length) (h : idxO p (xs.drop j) j = some r) :
    ∃ b, p (rd xs j) = some b ∧ (b = true → r = j) ∧ (b = false → idxO p (xs.drop (j + 1)) (j + 1) = some r) := by
  rw [List.drop_eq_getElem_cons hj] at h
  have e : rd xs (j : Int) = xs[j] := by simp [rd, hj]
  rw [e]
  simp only [idxO] at h
  cases hp : p xs[j] with
  | none => rw [hp] at h; simp at h
  | some b =>
    rw [hp] at h
    refine ⟨b, rfl, ?_, ?_⟩
    · rintro rfl; simpa using h.symm
    · rintro rfl; simpa using h
set_option maxHeartbeats 4000000 in
theorem index_calls (g : Nat) (lb : Array Value) (eg : ∀ args w, (callFunc g args).run Try.prog w = .ok (.enter g args) w) (p : Int → Option Bool) (A : Option Addr) (c : Nat) (xs : List Int) (r : Int) (w : World)
    (hr : Kd.C (Kd.int .i64) w A xs.length xs) (hp : Pays g lb p w) (h : idxO p xs 0 = some r) :
    Calls Try.prog 49 #[.slice A xs.length c, .func (.func g) #[] lb] w fun e w' => e = .returned (.int .i64 r) ∧ Below w.heap.size w w' := by
  have HR := Aside0.mk hr
  have HP := Aside0.mk hp
  have hmax := Kd.C_max hr
  have HM := Aside0.mk hmax
  have H0 := Aside0.mk h
  have HB := Aside0.mk (Below.refl w.heap.size w)
  clear hr hp h hmax
  go_enter Try.func49, Try.ntmps49
  go_wp2
  go_loopg [8] xs.length (fun kq v8 w' => ∃ j : Nat, v8 = .int .i64 (j : Int) ∧ Aside0 (j ≤ xs.length) ∧ Aside0 (xs.length - j ≤ kq) ∧ Aside0 (idxO p (xs.drop j) j = some r) ∧ Aside0 (Below w.heap.size w w'))
  case atStart => exact ⟨0, rfl, ⟨Nat.zero_le _⟩, ⟨Nat.le_refl _⟩, ⟨by rw [List.drop_zero]; exact H0.out⟩, HB⟩
  case round =>
    clear HB
    obtain ⟨j, rfl, HJ, HK, H, HB⟩ := hrel
    by_cases hlt : j < xs.length
    · obtain ⟨b, hb, h1, h2⟩ := idx_drop p xs j r hlt H.out
      have hc := HP.out wr (rd xs j) b HB.out hb
      obtain ⟨ad, ea, hx⟩ := Kd.at_int HR.out (j : Int) (by omega) (by omega)
      cases ea
      rw [Int.toNat_natCast] at hx
      replace hx := (HB.out.cell (World.block_lt_of_cell? w _ hx)).trans hx
      have HC := Aside0.mk hc
      have H1 := Aside0.mk h1
      have H2 := Aside0.mk h2
      clear hc h1 h2 hb
      have hM := HM.out
      cases b with
      | true =>
        have E1 := Aside0.mk (H1.out rfl)
        clear H1 H2
        go_wp2_with ((go_at_fn g; refine (HC.out).mono ?_; rintro e w' ⟨rfl, hb'⟩))
        go_ret
        exact ⟨by rw [E1.out]; rfl, HB.out.trans (hb'.mono HB.out.size)⟩
      | false =>
        have E2 := Aside0.mk (H2.out rfl)
        clear H1 H2
        go_wp2_with ((go_at_fn g; refine (HC.out).mono ?_; rintro e w' ⟨rfl, hb'⟩))
        go_roundg (xs.length - (j + 1))
        case measure => have := HK.out; omega
        case rel => exact ⟨j + 1, by simp, ⟨by omega⟩, ⟨Nat.le_refl _⟩, E2, ⟨HB.out.trans (hb'.mono HB.out.size)⟩⟩
    · have e : r = -1 := by
        have hj : j = xs.length := by have := HJ.out; omega
        have := H.out
        rw [hj, List.drop_length] at this
        simpa [idxO] using this.symm
      have E := Aside0.mk e
      have d1 : decide (j < xs.length) = false := decide_eq_false hlt
      have d2 : decide ((j : Int) < (xs.length : Int)) = false := decide_eq_false (by omega)
      clear e hlt
      go_wp2
      go_ret
      exact ⟨by rw [E.out]; rfl, HB.out⟩
set_option maxHeartbeats 4000000 in
theorem contains_calls (g : Nat) (lb : Array Value) (eg : ∀ args w, (callFunc g args).run Try.prog w = .ok (.enter g args) w) (p : Int → Option Bool) (A : Option Addr) (c : Nat) (xs : List Int) (r : Bool) (w : World)
    (hr : Kd.C (Kd.int .i64) w A xs.length xs) (hp : Pays g lb p w) (h : anyO p xs = some r) :
    Calls Try.prog 38 #[.slice A xs.length c, .func (.func g) #[] lb] w fun e w' => e = .returned (.bool r) ∧ Below w.heap.size w w' := by
  obtain ⟨i, hi, rfl⟩ : ∃ i, idxO p xs 0 = some i ∧ decide (i ≥ 0) = r := by
    unfold anyO at h
    cases hi : idxO p xs 0 with
    | none => rw [hi] at h; simp at h
    | some i => rw [hi] at h; exact ⟨i, rfl, by simpa using h⟩
  have HC := Aside0.mk (index_calls g lb eg p A c xs i w hr hp hi)
  clear hr hp hi h eg
  go_enter Try.func38, Try.ntmps38
  go_wp2_with (go_at_call 49; refine (HC.out).mono ?_; rintro e w' ⟨rfl, hb⟩)
  go_ret
  exact ⟨rfl, hb⟩
def freeIn (number group : List Int) (g b : Int) : Option Bool :=
  if 0 ≤ b ∧ b < group.length then
    if rd group b = g then some false
    else if 0 ≤ rd group b ∧ rd group b < number.length then some (decide (rd number (rd group b) < 0)) else none
  else none
def freeAt (number : List Int) (down : List (List Int)) (group : List Int) (g a : Int) : Option Bool :=
  if 0 ≤ a ∧ a < down.length then anyO (freeIn number group g) (rd_L7 down a) else none
def comps_free.f (g : Int) (number : List Int) (groups down : List (List Int)) (group : List Int) : Option Bool :=
  if 0 ≤ g ∧ g < number.length then
    if rd number g < 0 then
      if g < groups.length then (anyO (freeAt number down group g) (rd_L7 groups g)).map fun b => !b else none
    else some false
  else none
def VarI (w : World) (B : Nat) (xs : List Int) : Prop := ∃ A c, w.heap[B]? = some (.cells #[.slice A xs.length c] 56 (0, 0)) ∧ Kd.C (Kd.int .i64) w A xs.length xs
def VarL (w : World) (B : Nat) (xs : List (List Int)) : Prop := ∃ A c, w.heap[B]? = some (.cells #[.slice A xs.length c] 63 (0, 0)) ∧ Kd.C (Kd.slice 3 (Kd.int .i64)) w A xs.length xs
def VarN (w : World) (B : Nat) (x : Int) : Prop := w.heap[B]? = some (.cells #[.int .i64 x] 3 (0, 0))
theorem VarI.below {w W : World} {B : Nat} {xs : List Int} (h : VarI w B xs) (hb : Below w.heap.size w W) : VarI W B xs := by
  obtain ⟨A, c, h1, h2⟩ := h
  exact ⟨A, c, blk_below h1 hb, Kd.C_below h2 hb⟩
theorem VarL.below {w W : World} {B : Nat} {xs : List (List Int)} (h : VarL w B xs) (hb : Below w.heap.size w W) : VarL W B xs := by
  obtain ⟨A, c, h1, h2⟩ := h
  exact ⟨A, c, blk_below h1 hb, Kd.C_below h2 hb⟩
theorem VarN.below {w W : World} {B : Nat} {x : Int} (h : VarN w B x) (hb : Below w.heap.size w W) : VarN W B x := blk_below h hb
set_option maxHeartbeats 4000000 in
theorem in_pays (B1 B2 B3 : Nat) (number group : List Int) (g : Int) (w : World) (h1 : VarI w B1 group) (h2 : VarN w B2 g) (h3 : VarI w B3 number) :
    Pays 40 #[.pointer (some ⟨B1, 0, none⟩), .pointer (some ⟨B2, 0, none⟩), .pointer (some ⟨B3, 0, none⟩)] (freeIn number group g) w := by
  intro W x b hb hp
  obtain ⟨A1, c1, b1, r1⟩ := h1.below hb
  have b2 := h2.below hb
  obtain ⟨A3, c3, b3, r3⟩ := h3.below hb
  unfold VarN at b2
  have l1 := (blk_cell b1 0).trans rfl
  have l2 := (blk_cell b2 0).trans rfl
  have l3 := (blk_cell b3 0).trans rfl
  clear h1 h2 h3 b1 b2 b3
  unfold freeIn at hp
  by_cases hx : 0 ≤ x ∧ x < group.length
  · rw [if_pos hx] at hp
    obtain ⟨ad1, e1, hx1⟩ := Kd.at_int r1 x hx.1 hx.2
    cases e1
    have p1 := eq_true hx.1
    have q1 : decide (x < (group.length : Int)) = true := decide_eq_true hx.2
    have q1' := eq_true hx.2
    have z1 : decide (0 ≤ x) = true := decide_eq_true hx.1
    by_cases hg : rd group x = g
    · rw [if_pos hg] at hp
      obtain rfl := Option.some.inj hp
      have t1 : (rd group x == g) = true := beq_iff_eq.mpr hg
      have t2 : (rd group x != g) = false := bne_eq_false_iff_eq.mpr hg
      have HR := Aside0.mk r1
      clear hg hp hx hb r1 r3
      go_enter Try.func40, Try.ntmps40
      go_wp2
      go_quiet (fail)
      go_wp2
      go_ret
      exact ⟨rfl, by repeat (first | exact Below.refl _ _ | apply pw_below_drewN | apply below_drew1)⟩
    · rw [if_neg hg] at hp
      by_cases hq : 0 ≤ rd group x ∧ rd group x < number.length
      · rw [if_pos hq] at hp
        obtain rfl := Option.some.inj hp
        have t1 : (rd group x == g) = false := beq_eq_false_iff_ne.mpr hg
        have t2 : (rd group x != g) = true := bne_iff_ne.mpr hg
        obtain ⟨ad3, e3, hx3⟩ := Kd.at_int r3 (rd group x) hq.1 hq.2
        cases e3
        have p3 := eq_true hq.1
        have q3 := eq_true hq.2
        have q3' : decide (rd group x < (number.length : Int)) = true := decide_eq_true hq.2
        have z3 : decide (0 ≤ rd group x) = true := decide_eq_true hq.1
        clear hg hp hx hb r1 r3 hq
        go_enter Try.func40, Try.ntmps40
        go_wp2
        go_quiet (fail)
        go_wp2
        go_ret
        exact ⟨rfl, by repeat (first | exact Below.refl _ _ | apply pw_below_drewN | apply below_drew1)⟩
      · rw [if_neg hq] at hp
        cases hp
  · rw [if_neg hx] at hp
    cases hp
set_option maxHeartbeats 4000000 in
theorem at_pays (B1 B2 B3 B4 : Nat) (number : List Int) (down : List (List Int)) (group : List Int) (g : Int) (w : World) (h1 : VarL w B1 down) (h2 : VarI w B2 group) (h3 : VarN w B3 g) (h4 : VarI w B4 number) :
    Pays 39 #[.pointer (some ⟨B1, 0, none⟩), .pointer (some ⟨B2, 0, none⟩), .pointer (some ⟨B3, 0, none⟩), .pointer (some ⟨B4, 0, none⟩)] (freeAt number down group g) w := by
  intro W x b hb hp
  obtain ⟨A1, c1, b1, r1⟩ := h1.below hb
  have HP := Aside0.mk (in_pays B2 B3 B4 number group g W (h2.below hb) (h3.below hb) (h4.below hb))
  have l1 := (blk_cell b1 0).trans rfl
  clear h1 h2 h3 h4 b1
  unfold freeAt at hp
  by_cases hx : 0 ≤ x ∧ x < down.length
  · rw [if_pos hx] at hp
    obtain ⟨ad1, A0, c0, e1, hx1, hl1, hi1⟩ := at_L7 r1 x hx.1 hx.2
    cases e1
    have p1 := eq_true hx.1
    have q1 : decide (x < (down.length : Int)) = true := decide_eq_true hx.2
    have q1' := eq_true hx.2
    have z1 : decide (0 ≤ x) = true := decide_eq_true hx.1
    have HI := Aside0.mk hi1
    have HQ := Aside0.mk hp
    clear hp hx hb r1 hl1 hi1
    go_enter Try.func39, Try.ntmps39
    go_wp2_with (go_at_call 38; refine (contains_calls 40 _ (enters_of Try.func40 (by kernel_rfl) rfl) _ _ _ _ _ _ HI.out HP.out HQ.out).mono ?_; rintro e w' ⟨rfl, hb'⟩)
    go_ret
    exact ⟨rfl, hb'⟩
  · rw [if_neg hx] at hp
    cases hp
set_option maxHeartbeats 4000000 in
theorem comps_free.calls (a0 : Int) (g1 : Nat) (A1 : Option Addr) (c1 : Nat) (l1 : List Int) (g2 : Nat) (A2 : Option Addr) (c2 : Nat) (l2 : List (List Int)) (g3 : Nat) (A3 : Option Addr) (c3 : Nat) (l3 : List (List Int)) (g4 : Nat) (A4 : Option Addr) (c4 : Nat) (l4 : List Int) (r : Bool) (w : World)
    (hr1 : Kd.C (Kd.int .i64) w A1 l1.length l1) (hc1 : l1.length ≤ c1) (hr2 : Kd.C (Kd.slice 3 (Kd.int .i64)) w A2 l2.length l2) (hc2 : l2.length ≤ c2) (hr3 : Kd.C (Kd.slice 3 (Kd.int .i64)) w A3 l3.length l3) (hc3 : l3.length ≤ c3) (hr4 : Kd.C (Kd.int .i64) w A4 l4.length l4) (hc4 : l4.length ≤ c4)
    (hb1 : w.heap[g1]? = some (.cells #[.slice A1 l1.length c1] 56 (0, 0))) (hb2 : w.heap[g2]? = some (.cells #[.slice A2 l2.length c2] 63 (0, 0))) (hb3 : w.heap[g3]? = some (.cells #[.slice A3 l3.length c3] 63 (0, 0))) (hb4 : w.heap[g4]? = some (.cells #[.slice A4 l4.length c4] 56 (0, 0)))
    (h : comps_free.f a0 l1 l2 l3 l4 = some r) :
    Calls Try.prog 37 #[.int .i64 a0, .pointer (some ⟨g1, 0, none⟩), .pointer (some ⟨g2, 0, none⟩), .pointer (some ⟨g3, 0, none⟩), .pointer (some ⟨g4, 0, none⟩)] w fun e w' => e = .returned (.bool r) ∧ Below w.heap.size w w' := by
  have e1 := blk_lt hb1
  have e2 := blk_lt hb2
  have l1' := (blk_cell hb1 0).trans rfl
  have l2' := (blk_cell hb2 0).trans rfl
  have V1 := Aside0.mk (show VarI w g1 l1 from ⟨A1, c1, hb1, hr1⟩)
  have V3 := Aside0.mk (show VarL w g3 l3 from ⟨A3, c3, hb3, hr3⟩)
  have V4 := Aside0.mk (show VarI w g4 l4 from ⟨A4, c4, hb4, hr4⟩)
  have e3 := blk_lt hb3
  have e4 := blk_lt hb4
  have l3' := (blk_cell hb3 0).trans rfl
  clear hb1 hb2 hb3 hb4 hc1 hc2 hc3 hc4 hr3 hr4
  unfold comps_free.f at h
  by_cases hg : 0 ≤ a0 ∧ a0 < l1.length
  · rw [if_pos hg] at h
    obtain ⟨ad1, ea, hx1⟩ := Kd.at_int hr1 a0 hg.1 hg.2
    cases ea
    have p1 := eq_true hg.1
    have q1 : decide (a0 < (l1.length : Int)) = true := decide_eq_true hg.2
    have q1' := eq_true hg.2
    have z1 : decide (0 ≤ a0) = true := decide_eq_true hg.1
    have k1 := World.block_lt_of_cell? w _ hx1
    by_cases hn : rd l1 a0 < 0
    · rw [if_pos hn] at h
      by_cases hG : a0 < l2.length
      · rw [if_pos hG] at h
        obtain ⟨ad2, A0, c0, ea2, hx2, hl2, hi2⟩ := at_L7 hr2 a0 hg.1 hG
        cases ea2
        have q2 : decide (a0 < (l2.length : Int)) = true := decide_eq_true hG
        have q2' := eq_true hG
        have t1 : decide (rd l1 a0 < 0) = true := decide_eq_true hn
        have k2 := World.block_lt_of_cell? w _ hx2
        obtain ⟨b, hb, rfl⟩ : ∃ b, anyO (freeAt l1 l3 l4 a0) (rd_L7 l2 a0) = some b ∧ (!b) = r := by
          cases hq : anyO (freeAt l1 l3 l4 a0) (rd_L7 l2 a0) with
          | none => rw [hq] at h; simp at h
          | some b => rw [hq] at h; exact ⟨b, rfl, by simpa using h⟩
        have HQ := Aside0.mk hb
        have HI := Aside0.mk hi2
        clear hg hn hG h hb hi2 hl2 hr1 hr2
        have hbw : Below w.heap.size w (w.alloc (.cells #[.int .i64 a0] 3 (0, 0))) := (Below.refl _ _).alloc (Nat.le_refl _) _
        have HPY := Aside0.mk (at_pays g3 g4 w.heap.size g1 l1 l3 l4 a0 (w.alloc (.cells #[.int .i64 a0] 3 (0, 0))) (V3.out.below hbw) (V4.out.below hbw) (by show (w.heap.push _)[w.heap.size]? = _; simp) (V1.out.below hbw))
        have HI2 := Aside0.mk (Kd.C_below HI.out hbw)
        have HBW := Aside0.mk hbw
        clear hbw
        go_enter Try.func37, Try.ntmps37
        go_wp2_with (go_at_call 38; refine (contains_calls 39 _ (enters_of Try.func39 (by kernel_rfl) rfl) _ _ _ _ _ _ HI2.out HPY.out HQ.out).mono ?_; rintro e w' ⟨rfl, hb'⟩)
        go_ret
        exact ⟨rfl, HBW.out.trans (hb'.mono HBW.out.size)⟩
      · rw [if_neg hG] at h
        cases h
    · rw [if_neg hn] at h
      obtain rfl := Option.some.inj h
      have t1 : decide (rd l1 a0 < 0) = false := decide_eq_false hn
      clear hg hn h hr1 hr2
      go_enter Try.func37, Try.ntmps37
      go_wp2
      go_ret
      exact ⟨rfl, (Below.refl _ _).alloc (Nat.le_refl _) _⟩
  · rw [if_neg hg] at h
    cases h
end Go.Proofs.Ytfkilcegdajdcaa.PZ
