/- Package timer: sorted. -/
import Derived.Test.YtofdlbnlfeocoaaTold13
import Derived.Test.YtofdlbnlfeocoaaHeapDue13
import Derived.Test.YtofdlbnlfeocoaaSortLay
import Derived.Laws.StructEq
namespace Go.Proofs.Ytofdlbnlfeocoaa
open Go.RowKit Go.Sort Go.Shelf Go.Lib
set_option linter.unusedVariables false

set_option maxHeartbeats 1600000 in
/-- order makes blocks alone. -/
theorem order_grow (w : World) (p q : T3) : Calls Try.prog 29 #[.agg #[.int .i64 p.1, .int .i64 p.2.1, .int .i64 p.2.2], .agg #[.int .i64 q.1, .int .i64 q.2.1, .int .i64 q.2.2]] w fun e w' => e = .returned (.int .i64 (ord p q)) ∧ ∃ q os', w' = grow (w.drewN q) os' := by
  obtain ⟨p1, p2, p3⟩ := p
  obtain ⟨q1, q2, q3⟩ := q
  go_enter Try.func29, Try.ntmps29
  go_upto_region 1 with fail
  have e0 : ∃ os, (w.alloc (.cells #[.int .i64 p1, .int .i64 p2, .int .i64 p3] 57)).alloc (.cells #[.int .i64 q1, .int .i64 q2, .int .i64 q3] 57) = grow w os := ⟨_, by rw [alloc_eq_grow, alloc_eq_grow, grow_grow]⟩
  have b1 : Box ((w.alloc (.cells #[.int .i64 p1, .int .i64 p2, .int .i64 p3] 57)).alloc (.cells #[.int .i64 q1, .int .i64 q2, .int .i64 q3] 57)) w.heap.size #[.int .i64 p1, .int .i64 p2, .int .i64 p3] 57 := (Box.fresh w _ _).next (Ex.refl _)
  have b2 : Box ((w.alloc (.cells #[.int .i64 p1, .int .i64 p2, .int .i64 p3] 57)).alloc (.cells #[.int .i64 q1, .int .i64 q2, .int .i64 q3] 57)) (w.heap.size + 1) #[.int .i64 q1, .int .i64 q2, .int .i64 q3] 57 := by
    have := Box.fresh (w.alloc (.cells #[.int .i64 p1, .int .i64 p2, .int .i64 p3] 57)) #[.int .i64 q1, .int .i64 q2, .int .i64 q3] 57
    simpa using this
  obtain ⟨W, hW⟩ : ∃ W, W = (w.alloc (.cells #[.int .i64 p1, .int .i64 p2, .int .i64 p3] 57)).alloc (.cells #[.int .i64 q1, .int .i64 q2, .int .i64 q3] 57) := ⟨_, rfl⟩
  rw [← hW] at e0 b1 b2 ⊢
  clear hW
  have c0 : W.cell? ⟨w.heap.size, 0, none⟩ = some (.int .i64 p1) := b1.cell 0
  have c2 : W.cell? ⟨w.heap.size, 2, none⟩ = some (.int .i64 p3) := b1.cell 2
  have d0 : W.cell? ⟨w.heap.size + 1, 0, none⟩ = some (.int .i64 q1) := b2.cell 0
  have d2 : W.cell? ⟨w.heap.size + 1, 2, none⟩ = some (.int .i64 q3) := b2.cell 2
  refine wp_region_still_tail 12 (by kernel_rfl) (by kernel_rfl) ?_
  simp only [List.take_succ_cons, List.take_zero, List.drop_succ_cons, List.drop_zero]
  have e1 : Hid (∃ os, W.drew = grow (w.drewN 1) os) := Lib.hid (by obtain ⟨os, h⟩ := e0; exact ⟨os, by rw [h]; rfl⟩)
  replace c0 : W.drew.cell? ⟨w.heap.size, 0, none⟩ = some (.int .i64 p1) := c0
  replace c2 : W.drew.cell? ⟨w.heap.size, 2, none⟩ = some (.int .i64 p3) := c2
  replace d0 : W.drew.cell? ⟨w.heap.size + 1, 0, none⟩ = some (.int .i64 q1) := d0
  replace d2 : W.drew.cell? ⟨w.heap.size + 1, 2, none⟩ = some (.int .i64 q3) := d2
  rw [show ({ W with drawn := W.drawn + 1 } : World) = W.drew from rfl]
  clear b1 b2 e0
  generalize W.drew = V at *
  still_step
  still_step
  still_step
  still_step
  still_step
  still_step
  still_call ((compare64 V p1 q1).mono (fun _ _ h => ⟨h.1, h.2.symm⟩))
  still_step
  still_step
  still_step
  still_step
  still_call ((comparei V p3 q3).mono (fun _ _ h => ⟨h.1, h.2.symm⟩))
  refine wpStill_nil ?_
  go_wp2_with fail
  refine (or_two _ (cmpI p1 q1) (cmpI p3 q3) V.heap.size (by simp) (by simp)).mono ?_
  rintro e w' ⟨rfl, rfl⟩
  obtain ⟨z, hz⟩ : ∃ z, (if cmpI p1 q1 = 0 then cmpI p3 q3 else cmpI p1 q1) = z := ⟨_, rfl⟩
  rw [hz]
  go_wp2
  go_ret
  refine ⟨by rw [show ord (p1, p2, p3) (q1, q2, q3) = z from hz]; rfl, 1, ?_⟩
  obtain ⟨os, h⟩ := e1.out
  exact ⟨_, by rw [h, alloc_eq_grow, grow_grow]⟩

def enc3 (p : T3) : List Value := [.int .i64 p.1, .int .i64 p.2.1, .int .i64 p.2.2]
instance inh3 : Inhabited T3 := ⟨zz⟩

theorem cells3_get : ∀ (l : List T3) (t : Nat), (cells3 l)[t]? = if t < l.length * 3 then (enc3 (l.getD (t / 3) zz))[t % 3]? else none
  | [], t => by simp [cells3]
  | p :: l, 0 => by simp [cells3, enc3]
  | p :: l, 1 => by simp [cells3, enc3]; omega
  | p :: l, 2 => by simp [cells3, enc3]; omega
  | p :: l, t + 3 => by
    have ih := cells3_get l t
    simp only [cells3, List.getElem?_cons_succ, List.length_cons]
    rw [ih, show (t + 3) / 3 = t / 3 + 1 by omega, show (t + 3) % 3 = t % 3 by omega]
    by_cases h : t < l.length * 3
    · rw [if_pos h, if_pos (by omega)]; rfl
    · rw [if_neg h, if_neg (by omega)]

theorem flat3 (l : List T3) : flatK enc3 3 l.toArray = (cells3 l).toArray := by
  apply Array.ext_getElem?
  intro t
  rw [show (cells3 l).toArray[t]? = (cells3 l)[t]? from List.getElem?_toArray .., cells3_get]
  by_cases h : t < l.length * 3
  · rw [if_pos h]
    have h1 : t / 3 < l.length := by omega
    unfold flatK
    simp [h, h1]
    have : t % 3 < (enc3 l[t / 3]).length := by show t % 3 < 3; omega
    rw [List.getElem?_eq_getElem this]
    simp
  · rw [if_neg h]
    unfold flatK
    simp [h]

/-- What is sorted. -/
structure Srt (l s : List T3) : Prop where
  perm : s.Perm l
  sorted : s.Pairwise (fun p q => ¬ lt3 q p)

instance dec3 (p q : T3) : Decidable (lt3 p q) := by unfold lt3; infer_instance
theorem ltOf_iff (p q : T3) : ltOf ord p q = decide (lt3 p q) := by
  unfold ltOf
  rw [decide_eq_decide]
  exact ord_neg p q
theorem swo3 : SWO (ltOf ord) where
  irrefl x := by rw [ltOf_iff]; simp [lt3]
  trans x y z h1 h2 := by rw [ltOf_iff] at *; simp at *; exact lt3_trans h1 h2
  ntrans x y z h1 h2 := by rw [ltOf_iff] at *; simp at *; exact nlt3_trans h2 h1

theorem srt_of {l : List T3} {d' : Array T3} (h : PermIn 0 l.toArray.size l.toArray d') (k : SortedIn (ltOf ord) 0 l.toArray.size d') : Srt l d'.toList := by
  obtain ⟨h1, -, h3⟩ := h
  refine ⟨?_, ?_⟩
  · have e : d'.extract 0 l.toArray.size = d' := by rw [← h1]; exact Array.extract_size
    rw [e] at h3
    simpa using h3
  · rw [List.pairwise_iff_getElem]
    intro i j hi hj hij
    have := k i j (Nat.zero_le _) hij (by simpa [h1] using hj)
    rw [ltOf_iff] at this
    simp only [Array.length_toList] at hi hj
    simp only [Array.getElem_toList]
    simpa [hi, hj] using this

theorem cmp3 (blk off size : Nat) (w : World) : CmpLays Try.prog 29 #[] enc3 3 ord blk off size w := fun _ _ _ _ p q => order_grow _ p q

theorem holds3 {w : World} {base g cap : Nat} {l : List T3} (h : Row3 w base (.slice (some ⟨g, 0, none⟩) l.length cap) l) : HoldsK enc3 3 w g 0 l.toArray := by
  intro j hj
  rw [flat3] at hj ⊢
  refine ⟨?_, World.ownsRow.frozenAt h _⟩
  have hj' : j < (cells3 l).length := by simpa using hj
  rw [Nat.zero_add, World.ownsRow.cellAt h j (by rwa [cells3_length] at hj')]
  simp [hj']

theorem row_sorted {w : World} {base g cap n : Nat} {l : List T3} {s : Array T3} {os : Array Obj} (h : Row3 w base (.slice (some ⟨g, 0, none⟩) l.length cap) l) (hs : s.size = l.length) :
    Row3 (sortWorldK enc3 3 w g 0 n s os) base (.slice (some ⟨g, 0, none⟩) l.length cap) s.toList ∧ Chg (fun i => i = g) w (sortWorldK enc3 3 w g 0 n s os) := by
  rcases h.2 with ⟨h1, -⟩ | ⟨g', cap', cur, h1, h2, h3, h4, h5, h6, h7⟩
  · cases h1
  · cases h1
    have hg : g < w.heap.size := (Array.getElem?_eq_some_iff.1 h3).1
    have hb : (sortWorldK enc3 3 w g 0 n s os).heap[g]? = some (.cells (putCells id 0 (flatK enc3 3 s) cur) 57 (0, 0)) := by
      unfold sortWorldK
      rw [heap_grow_old _ _ (by simpa [putRowK] using hg)]
      simp [putRowK, putRow, mapBlock, Sort.ahead, Array.getElem?_modify, h3, onCells]
    have hlen : s.toList.length = l.length := by simpa using hs
    have hf : flatK enc3 3 s = (cells3 s.toList).toArray := by
      have := flat3 s.toList
      simpa using this
    refine ⟨?_, rfl, rfl, rfl, ?_, ?_⟩
    · refine ⟨by rw [cells3_length], .inr ⟨g, cap, _, by rw [hlen], h2, hb, by rw [hlen]; exact h4, h5, by simp [putCells, h6], ?_⟩⟩
      rw [hf]
      apply List.ext_getElem?
      intro j
      by_cases hj : j < l.length * 3
      · have hjc : j < cur.size := by rw [h6]; omega
        have hjl : j < (cells3 s.toList).length := by rw [cells3_length]; omega
        rw [List.getElem?_take_of_lt (by omega), Array.getElem?_toList]
        simp [putCells, hjc, hjl]
      · rw [List.getElem?_take_eq_none (by omega), List.getElem?_eq_none (by rw [cells3_length]; omega)]
    · simp [sortWorldK, putRowK]
    · intro k hk hne
      unfold sortWorldK
      rw [heap_grow_old _ _ (by simpa [putRowK] using hk)]
      have : g ≠ k := fun e => hne e.symm
      simp [putRowK, putRow, mapBlock, Sort.ahead, Array.getElem?_modify, this]

end Go.Proofs.Ytofdlbnlfeocoaa
