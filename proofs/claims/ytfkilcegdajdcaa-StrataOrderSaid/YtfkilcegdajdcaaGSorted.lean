
/- strata.sorted: what it answers (strings in order, each once), by the library's contracts of slices.Sort and slices.Compact. -/
import Derived.Test.YtfkilcegdajdcaaPZx0
import Derived.Test.YtfkilcegdajdcaaGOrd
import Derived.Test.YtfkilcegdajdcaaLays1
import Derived.Shelf.SortM.Plain
import Derived.Shelf.SortM.SortNone
import Derived.Shelf.SlicesG.CompactS
namespace Go.Proofs.Ytfkilcegdajdcaa.PZ
open Go.RowKit Go.Proofs.YtfkilcegdajdcaaW.PrintWords Go.Proofs.YtfkilcegdajdcaaW.PrintLast Go.Proofs.YtfkilcegdajdcaaW.PrintMore
set_option linter.unusedVariables false
set_option linter.unusedSimpArgs false
def strata_sorted.f (l0 : List ByteArray) : Option (List ByteArray) := if l0.length ≤ 100000 then some (Ord.sorted l0) else none
theorem enc_bs (l : List ByteArray) : (Ord.bs l).map Go.Proofs.encStr = l.map Value.string := by
  unfold Ord.bs
  rw [List.map_map]
  refine List.map_congr_left fun b _ => ?_
  cases b
  rfl
theorem sort_call (blk off cap : Nat) (ss : List (List UInt8)) (w : World) (hH : Go.Sort.Holds Go.Proofs.encStr w blk off ss.toArray) (hblk : blk < w.heap.size) (hsz : ss.length < 4611686018427387904) :
    Calls Try.prog 42 #[.slice (some ⟨blk, off, none⟩) ss.length cap] w fun e w' => e = .returned (.tuple #[]) ∧ ∃ n os, w' = Go.Sort.grow (Go.Sort.putRow Go.Proofs.encStr (Go.Sort.ahead w n) blk off (ss.mergeSort fun x y => decide (x ≤ y)).toArray) os :=
  AnyM.slices_Sort_string Lay.laysSort blk off cap ss w hH hblk hsz
theorem sort_none (p : Option Addr) (cap : Nat) (w : World) : Calls Try.prog 42 #[.slice p 0 cap] w fun e w' => e = .returned (.tuple #[]) ∧ w' = w := AnyM.slices_Sort_string_none Lay.laysSort p cap w
theorem compact_call (blk off cap : Nat) (zs : List (List UInt8)) (w : World) (hH : Go.Sort.Holds Go.Proofs.encStr w blk off zs.toArray) (hsz : zs.length ≤ 9223372036854775807) (hcap : zs.length ≤ cap) :
    Calls Try.prog 43 #[.slice (some ⟨blk, off, none⟩) zs.length cap] w fun e w' => e = .returned (.slice (some ⟨blk, off, none⟩) (Lib.compact zs).length cap) ∧ ∃ q, w' = Go.Sort.putRow Go.Proofs.encStr (Go.Sort.ahead w q) blk off (Lib.compact zs ++ List.replicate (zs.length - (Lib.compact zs).length) []).toArray :=
  AnyG.slices_Compact_string Lay.laysCompact blk off cap zs w hH hsz hcap
theorem compact_none (a : Option Addr) (cap : Nat) (w : World) : Calls Try.prog 43 #[.slice a 0 cap] w fun e w' => e = .returned (.slice a 0 cap) ∧ w' = w := AnyG.slices_Compact_string_empty Lay.laysCompact a cap w
theorem put_block {w : World} {g n : Nat} {cur : Array Value} {e : TypeId} (h : w.heap[g]? = some (.cells cur e (0, 0))) (ss : List (List UInt8)) : (Go.Sort.putRow Go.Proofs.encStr (Go.Sort.ahead w n) g 0 ss.toArray).heap[g]? = some (.cells (Go.Sort.putCells Go.Proofs.encStr 0 ss.toArray cur) e (0, 0)) := by
  unfold Go.Sort.putRow Go.Sort.mapBlock
  simp only [Array.getElem?_modify, Go.Sort.heap_ahead, h, if_true, Option.map_some]
  rfl
theorem put_other {w : World} {g n k : Nat} (ss : List (List UInt8)) (hk : k ≠ g) : (Go.Sort.putRow Go.Proofs.encStr (Go.Sort.ahead w n) g 0 ss.toArray).heap[k]? = w.heap[k]? := by
  unfold Go.Sort.putRow Go.Sort.mapBlock
  simp only [Array.getElem?_modify, Go.Sort.heap_ahead]
  rw [if_neg (fun h => hk h.symm)]
theorem put_size {w : World} {g n : Nat} (ss : List (List UInt8)) : (Go.Sort.putRow Go.Proofs.encStr (Go.Sort.ahead w n) g 0 ss.toArray).heap.size = w.heap.size := by
  rw [Go.Sort.size_putRow]; rfl
theorem putCells_size (ss : List (List UInt8)) (cur : Array Value) : (Go.Sort.putCells Go.Proofs.encStr 0 ss.toArray cur).size = cur.size := by simp [Go.Sort.putCells]
theorem putCells_take (ss : List (List UInt8)) (cur : Array Value) (h : ss.length ≤ cur.size) (n : Nat) (hn : n ≤ ss.length) : (Go.Sort.putCells Go.Proofs.encStr 0 ss.toArray cur).toList.take n = (ss.take n).map Go.Proofs.encStr := by
  apply List.ext_getElem
  · simp [Go.Sort.putCells]; omega
  · intro i h1 h2
    have hi : i < n := by simp at h1; omega
    simp only [List.getElem_take, Array.getElem_toList, List.getElem_map]
    simp only [Go.Sort.putCells, Array.getElem_mapIdx]
    rw [if_pos ⟨Nat.zero_le _, by simp; omega⟩]
    congr 1
    rw [getElem!_pos _ _ (by simp; omega)]
    simp
theorem holds_of_row {w : World} {g cap : Nat} {cur : Array Value} {e : TypeId} (h : w.heap[g]? = some (.cells cur e (0, 0))) (ss : List (List UInt8)) (hs : cur.toList.take ss.length = ss.map Go.Proofs.encStr) (hl : ss.length ≤ cur.size) : Go.Sort.Holds Go.Proofs.encStr w g 0 ss.toArray := by
  intro j hj
  have hj' : j < ss.length := by simpa using hj
  refine ⟨?_, ?_⟩
  · have h2 := (blk_cell h (0 + j)).trans rfl
    rw [h2]
    have h3 := congrArg (fun l => l[j]?) hs
    simp only [List.getElem?_take, hj', if_true, List.getElem?_map] at h3
    rw [Nat.zero_add, getElem!_pos _ j (by simpa using hj')]
    rw [Array.getElem?_toList] at h3
    rw [h3]
    simp [hj']
  · exact blk_frozen h _
structure Wrote (w w' : World) (g : Nat) (cells : Array Value) (e : TypeId) : Prop where
  blk : w'.heap[g]? = some (.cells cells e (0, 0))
  kept : Kept w w' (fun k => k = g)
  below : Below g w w'
theorem wrote_put {w : World} {g : Nat} {cur : Array Value} {e : TypeId} (h : w.heap[g]? = some (.cells cur e (0, 0))) (n : Nat) (os : Array Obj) (ss : List (List UInt8)) :
    Wrote w (Go.Sort.grow (Go.Sort.putRow Go.Proofs.encStr (Go.Sort.ahead w n) g 0 ss.toArray) os) g (Go.Sort.putCells Go.Proofs.encStr 0 ss.toArray cur) e := by
  have hg := blk_lt h
  have hs := put_size (w := w) (g := g) (n := n) ss
  have hi : ∀ k, k < w.heap.size → (Go.Sort.grow (Go.Sort.putRow Go.Proofs.encStr (Go.Sort.ahead w n) g 0 ss.toArray) os).heap[k]? = (Go.Sort.putRow Go.Proofs.encStr (Go.Sort.ahead w n) g 0 ss.toArray).heap[k]? := by
    intro k hk
    show (_ ++ os)[k]? = _
    rw [Array.getElem?_append_left (by rw [hs]; exact hk)]
  have hsz : w.heap.size ≤ (Go.Sort.grow (Go.Sort.putRow Go.Proofs.encStr (Go.Sort.ahead w n) g 0 ss.toArray) os).heap.size := by
    show _ ≤ (_ ++ os).size
    rw [Array.size_append, hs]
    exact Nat.le_add_right _ _
  refine ⟨?_, ⟨hsz, fun k hk hn => ?_⟩, ⟨rfl, rfl, rfl, hsz, fun k hk => ?_⟩⟩
  · rw [hi g hg]; exact put_block h ss
  · rw [hi k hk]; exact put_other ss hn
  · rw [hi k (by omega)]; exact put_other ss (by omega)
theorem reps_str {w : World} {base : Nat} {ok : Nat → Prop} {l : List ByteArray} {inner : List Value} (h : Reps (Kd.string.M w base ok) 1 l inner) : inner = l.map Value.string := by
  obtain ⟨h1, h2⟩ := h
  apply List.ext_getElem
  · simpa using h1
  · intro i ha hb
    have hi : i < l.length := by simpa using hb
    have h3 : (inner.drop (i * 1)).take 1 = [Value.string l[i]] := h2 i l[i] (List.getElem?_eq_getElem hi)
    have h4 := congrArg (fun q => q[0]?) h3
    simp [List.getElem?_drop] at h4
    rw [List.getElem_map]
    rw [List.getElem?_eq_getElem ha] at h4
    exact Option.some.inj h4
theorem str_reps {w : World} {base : Nat} {ok : Nat → Prop} (l : List ByteArray) : Reps (Kd.string.M w base ok) 1 l (l.map Value.string) := by
  refine ⟨by simp, fun j p hp => ?_⟩
  show ((l.map Value.string).drop (j * 1)).take 1 = [Value.string p]
  obtain ⟨hj, rfl⟩ := List.getElem?_eq_some_iff.1 hp
  rw [Nat.mul_one, List.drop_eq_getElem_cons (by simpa using hj)]
  simp
theorem sorted_len (l : List ByteArray) : (Ord.sorted l).length ≤ l.length := Ord.nsort_len_le l
theorem bs_len (l : List ByteArray) : (Ord.bs l).length = l.length := by simp [Ord.bs]
set_option maxHeartbeats 4000000 in
theorem strata_sorted.calls (P0_ : Nat → Prop) (u9000_ : Value) (l0 : List ByteArray) (r : List ByteArray) (w0 w : World) (hB : Below w0.heap.size w0 w) (ho0 : Kd.R Kd.string 9 w w0.heap.size P0_ u9000_ l0) (h : strata_sorted.f l0 = some r) :
    Calls Try.prog 26 #[u9000_] w fun e w' => ∃ v0_ : Value, e = .returned v0_ ∧ Kd.R Kd.string 9 w' w0.heap.size (fun k_ => (P0_ k_ ∨ w.heap.size ≤ k_)) v0_ r ∧ Below w0.heap.size w0 w' ∧ Kept w w' (fun k_ => P0_ k_) := by
  have hlim0 : l0.length ≤ 100000 := by
    by_cases hq : l0.length ≤ 100000
    · exact hq
    · unfold strata_sorted.f at h; rw [if_neg hq] at h; cases h
  have h' := h
  unfold strata_sorted.f at h'
  rw [if_pos hlim0] at h'
  obtain rfl := Option.some.inj h'
  clear h'
  obtain ⟨hP, inner, ⟨hlen, hrow⟩, hreps⟩ := ho0
  rcases hrow with ⟨rfl, hn⟩ | ⟨g, cap, cur, rfl, hg, hh, hn, hc, hs, ht⟩
  · obtain rfl := List.eq_nil_of_length_eq_zero hn
    have HB := Aside0.mk hB
    clear h hP hlen hreps hn hB hlim0
    go_enter Try.func26, Try.ntmps26
    go_wp2_with (first | (go_at_call 42; refine (sort_none none 0 _).mono ?_; rintro e w' ⟨rfl, rfl⟩) | (go_at_call 43; refine (compact_none none 0 _).mono ?_; rintro e w' ⟨rfl, rfl⟩))
    go_ret
    exact ⟨_, rfl, Kd.R_nil _ _ _ _ _, HB.out, Kept.refl _ _⟩
  · have hin := reps_str hreps
    subst hin
    have e1 : (Kd.string : Kd ByteArray).sz = 1 := rfl
    rw [e1, Nat.mul_one] at ht hs
    have hlc : l0.length ≤ cur.size := by omega
    have hmax : cap ≤ 9223372036854775807 := by unfold maxLen at hc; omega
    have hm1 : ((Ord.bs l0).mergeSort fun x y => decide (x ≤ y)).length = l0.length := by rw [List.length_mergeSort, bs_len]
    have hH := holds_of_row (cap := cap) hh (Ord.bs l0) (by rw [bs_len, enc_bs]; exact ht) (by rw [bs_len]; exact hlc)
    have hlim : l0.length < 4611686018427387904 := by omega
    have c1 := sort_call g 0 cap (Ord.bs l0) w hH (blk_lt hh) (by rw [bs_len]; exact hlim)
    rw [bs_len] at c1
    have c1' : Calls Try.prog 42 #[.slice (some ⟨g, 0, none⟩) l0.length cap] w fun e w' => e = .returned (.tuple #[]) ∧ Wrote w w' g (Go.Sort.putCells Go.Proofs.encStr 0 ((Ord.bs l0).mergeSort fun x y => decide (x ≤ y)).toArray cur) 9 := c1.mono fun e w' ⟨he, n, os, hw⟩ => ⟨he, hw ▸ wrote_put hh n os _⟩
    have c2' : ∀ w1, Wrote w w1 g (Go.Sort.putCells Go.Proofs.encStr 0 ((Ord.bs l0).mergeSort fun x y => decide (x ≤ y)).toArray cur) 9 →
        Calls Try.prog 43 #[.slice (some ⟨g, 0, none⟩) l0.length cap] w1 fun e w' => e = .returned (.slice (some ⟨g, 0, none⟩) (Ord.sorted l0).length cap) ∧ Wrote w1 w' g (Go.Sort.putCells Go.Proofs.encStr 0 (Ord.bs (Ord.sorted l0) ++ List.replicate (l0.length - (Ord.sorted l0).length) []).toArray (Go.Sort.putCells Go.Proofs.encStr 0 ((Ord.bs l0).mergeSort fun x y => decide (x ≤ y)).toArray cur)) 9 := by
      intro w1 hw1
      have hH1 := holds_of_row (cap := cap) hw1.blk ((Ord.bs l0).mergeSort fun x y => decide (x ≤ y)) (by
        rw [hm1, putCells_take _ _ (by rw [hm1]; exact hlc) _ (by rw [hm1]; exact Nat.le_refl _)]
        rw [List.take_of_length_le (by rw [hm1]; exact Nat.le_refl _)]) (by rw [putCells_size, hm1]; exact hlc)
      have c2 := compact_call g 0 cap _ w1 hH1 (by rw [hm1]; omega) (by rw [hm1]; exact hn)
      rw [hm1, Ord.sort_compact, bs_len] at c2
      exact c2.mono fun e w' ⟨he, q, hw⟩ => ⟨he, by
        have := wrote_put hw1.blk q #[] (Ord.bs (Ord.sorted l0) ++ List.replicate (l0.length - (Ord.sorted l0).length) [])
        rw [Go.Sort.grow_empty] at this
        rw [hw]; exact this⟩
    have C1 := Aside0.mk c1'
    have C2 := Aside0.mk c2'
    have HB := Aside0.mk hB
    have HP := Aside0.mk hP
    have FIN : Aside0 (∀ w1 w2 : World, Wrote w w1 g (Go.Sort.putCells Go.Proofs.encStr 0 ((Ord.bs l0).mergeSort fun x y => decide (x ≤ y)).toArray cur) 9 → Wrote w1 w2 g (Go.Sort.putCells Go.Proofs.encStr 0 (Ord.bs (Ord.sorted l0) ++ List.replicate (l0.length - (Ord.sorted l0).length) []).toArray (Go.Sort.putCells Go.Proofs.encStr 0 ((Ord.bs l0).mergeSort fun x y => decide (x ≤ y)).toArray cur)) 9 →
        Kd.R Kd.string 9 w2 w0.heap.size (fun k_ => (P0_ k_ ∨ w.heap.size ≤ k_)) (.slice (some ⟨g, 0, none⟩) (Ord.sorted l0).length cap) (Ord.sorted l0) ∧ Below w0.heap.size w0 w2 ∧ Kept w w2 (fun k_ => P0_ k_)) := ⟨by
      intro w1 w2 h1 h2
      have hsl := sorted_len l0
      refine ⟨⟨fun k hk => .inl (hP k hk), (Ord.sorted l0).map Value.string, ⟨by simp [Kd.string, Kd.scalar], .inr ⟨g, cap, _, rfl, hg, h2.blk, by omega, hc, ?_, ?_⟩⟩, str_reps _⟩, ?_, ?_⟩
      · rw [putCells_size, putCells_size]; exact hs.trans (Nat.mul_one _).symm
      · rw [show (Kd.string : Kd ByteArray).sz = 1 from rfl, Nat.mul_one]
        rw [putCells_take _ _ (by rw [putCells_size, List.length_append, List.length_replicate, bs_len]; omega) _ (by rw [List.length_append, bs_len]; omega)]
        rw [List.take_append_of_le_length (by rw [bs_len]; exact Nat.le_refl _), List.take_of_length_le (by rw [bs_len]; exact Nat.le_refl _), enc_bs]
      · exact hB.trans ((h1.below.trans h2.below).mono hg)
      · have hgP : P0_ g := hP g rfl
        exact (h1.kept.mono (fun k hk => hk ▸ hgP)).then_ (h2.kept.mono (S' := P0_) (fun k hk => hk ▸ hgP)) (fun k hk => .inl hk)⟩
    clear h hP hlen hreps hn hB hlim0 c1 c1' c2' hH hm1 hlim hmax hlc hs ht hc hh hg e1
    go_enter Try.func26, Try.ntmps26
    go_wp2_with (first | (go_at_call 42; refine (C1.out).mono ?_; rintro e w1 ⟨rfl, h1⟩; have H1 := Aside0.mk h1; clear h1) | (go_at_call 43; refine (C2.out _ H1.out).mono ?_; rintro e w2 ⟨rfl, h2⟩))
    go_ret
    exact ⟨_, rfl, FIN.out _ _ H1.out h2⟩
#print axioms strata_sorted.calls
end Go.Proofs.Ytfkilcegdajdcaa.PZ
