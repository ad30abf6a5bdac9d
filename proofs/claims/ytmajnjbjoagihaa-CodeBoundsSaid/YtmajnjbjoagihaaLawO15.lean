/- CodeBounds. -/
import Derived.Test.YtmajnjbjoagihaaLawM15
import Derived.Test.YtmajnjbjoagihaaStr15
import Derived.Test.YtmajnjbjoagihaaBoundP15
import Derived.Deep.AppendLies
import Derived.IntWalk
namespace Go.Proofs.Ytmajnjbjoagihaa
open Go.RowKit
set_option linter.unusedVariables false
set_option linter.unusedSimpArgs false

theorem cells4_zero (k : Nat) : (cells4 (zL k)).toArray = madeCells (Value.agg #[.int .i64 0, .int .i64 0, .int .i64 0, .int .i64 0]).cells (k * 4) := by
  apply Array.ext_getElem?
  intro j
  by_cases h : j < k * 4
  · have h1 : ∃ i, i < k ∧ (j = i * 4 ∨ j = i * 4 + 1 ∨ j = i * 4 + 2 ∨ j = i * 4 + 3) := ⟨j / 4, by omega, by omega⟩
    obtain ⟨i, hi, hj⟩ := h1
    have e : (zL k)[i]'(by rw [zL_length]; exact hi) = zI := by simp [zL]
    obtain ⟨c0, c1, c2, c3⟩ := cells4_at (zL k) i (by rw [zL_length]; exact hi)
    rw [e] at c0 c1 c2 c3
    rcases hj with rfl | rfl | rfl | rfl
    · rw [List.getElem?_toArray, c0]; simp [madeCells, Value.cells, zI, h]
    · rw [List.getElem?_toArray, c1]; simp [madeCells, Value.cells, zI, h, show (i * 4 + 1) % 4 = 1 by omega]
    · rw [List.getElem?_toArray, c2]; simp [madeCells, Value.cells, zI, h, show (i * 4 + 2) % 4 = 2 by omega]
    · rw [List.getElem?_toArray, c3]; simp [madeCells, Value.cells, zI, h, show (i * 4 + 3) % 4 = 3 by omega]
  · have : (cells4 (zL k)).length ≤ j := by rw [cells4_length, zL_length]; omega
    rw [List.getElem?_toArray, List.getElem?_eq_none this]
    simp [madeCells, h]
theorem make_insts (w : World) (k : Nat) (hk : k ≤ 1000) : (Instr.makeSlice 30 (.int .i64 (k : Int)) (.int .i64 (k : Int))).run Try.prog w = .ok (.slice (some ⟨w.heap.size, 0, none⟩) k k) (w.alloc (.cells (cells4 (zL k)).toArray 45)) := by
  obtain ⟨i0, hi, hz0, hz1, hz2⟩ := info_parts info_inst
  rw [run_makeSlice (P := Try.prog) w 30 45 i0 (.agg #[.int .i64 0, .int .i64 0, .int .i64 0, .int .i64 0]) Try.underlying30 hi hz0 .i64 .i64 k k (by omega) (by omega) (by rw [hz1]; omega) (by rw [hz2]; omega) (by omega)]
  rw [hz1, Int.toNat_natCast, cells4_zero]

/-- Rows, the last of which lies apart. -/
def PRowL (w : World) (base : Nat) (fv : Value) (acc : List (List I4)) : Prop := ∃ lvs : List Value, lvs.length = acc.length ∧ w.ownsRow base 30 1 fv acc.length lvs ∧ (∀ i (h : i < acc.length), IRow w base fv.ownBlock (lvs.getD i undef) acc[i]) ∧
  ∀ i, i + 1 < acc.length → ∀ b, (lvs.getD i undef).ownBlock = some b → (lvs.getD (acc.length - 1) undef).ownBlock ≠ some b
theorem PRowL.row {w : World} {base : Nat} {fv : Value} {acc : List (List I4)} (h : PRowL w base fv acc) : PRow w base fv acc := by
  obtain ⟨lvs, h1, h2, h3, -⟩ := h
  exact ⟨lvs, h1, h2, h3⟩
theorem PRowL.chg {F : Nat → Prop} {w w' : World} {base : Nat} {fv : Value} {acc : List (List I4)} (h : PRowL w base fv acc) (x : Chg F w w') (hF : ∀ g, base ≤ g → g < w.heap.size → ¬ F g) : PRowL w' base fv acc := by
  obtain ⟨lvs, h1, h2, h3, h4⟩ := h
  refine ⟨lvs, h1, row_chg h2 x (fun g hg => hF g (row_base h2 g hg).1 (row_base h2 g hg).2), fun i hi => (h3 i hi).chg x (fun g hg => ?_), h4⟩
  have := row_base (h3 i hi).1 g hg
  exact hF g this.1 this.2
/-- One row more, of a block that is younger than all the others. -/
theorem PRowL.snoc {w w1 : World} {base cap g nb n c : Nat} {fv : Value} {acc : List (List I4)} {l : List I4} {lvs : List Value} (h1 : lvs.length = acc.length) (h2 : w.ownsRow base 30 1 fv acc.length lvs) (h3 : ∀ i (h : i < acc.length), IRow w base fv.ownBlock (lvs.getD i undef) acc[i])
    (hl : IRow w base fv.ownBlock (.slice (some ⟨nb, 0, none⟩) n c) l) (hnb : ∀ i (h : i < acc.length) b, (lvs.getD i undef).ownBlock = some b → b < nb)
    (hown : w1.ownsRow base 30 1 (.slice (some ⟨g, 0, none⟩) (acc.length + 1) cap) (acc.length + 1) (lvs ++ [.slice (some ⟨nb, 0, none⟩) n c]))
    (hc : Chg (fun i => fv.ownBlock = some i) w w1) (hor : fv.ownBlock = some g ∨ w.heap.size ≤ g) : PRowL w1 base (.slice (some ⟨g, 0, none⟩) (acc.length + 1) cap) (acc ++ [l]) := by
  have key : ∀ lv' l', IRow w base fv.ownBlock lv' l' → IRow w1 base (some g) lv' l' := by
    intro lv' l' k
    refine ⟨row_chg k.1 hc (fun j hj e => k.2 j hj e), ?_⟩
    intro j hj e
    cases e
    rcases hor with e | e
    · exact k.2 g hj e
    · have := row_base k.1 g hj
      omega
  have last : (lvs ++ [Value.slice (some ⟨nb, 0, none⟩) n c]).getD acc.length undef = .slice (some ⟨nb, 0, none⟩) n c := by rw [← h1]; simp
  have early : ∀ i, i < acc.length → (lvs ++ [Value.slice (some ⟨nb, 0, none⟩) n c]).getD i undef = lvs.getD i undef := fun i hi => by simp [List.getD, List.getElem?_append, h1, hi]
  refine ⟨lvs ++ [.slice (some ⟨nb, 0, none⟩) n c], by simp [h1], by rw [List.length_append]; exact hown, fun i hi => ?_, fun i hi b hb => ?_⟩
  · by_cases hlt : i < acc.length
    · have e2 : (acc ++ [l])[i] = acc[i] := List.getElem_append_left hlt
      rw [early i hlt, e2]
      exact key _ _ (h3 i hlt)
    · have hi' : i = acc.length := by simp at hi; omega
      subst hi'
      rw [last]
      simp only [List.getElem_concat_length]
      exact key _ _ hl
  · have hlt : i < acc.length := by simp at hi; omega
    rw [early i hlt] at hb
    rw [show (acc ++ [l]).length - 1 = acc.length by simp, last]
    intro e
    cases e
    have := hnb i hlt _ hb
    dsimp only at this
    omega

/-- What there is on the way. -/
structure CB (w Y : World) (ib pb : Nat) (x : I4) (g : Int) (fv : Value) (acc : List (List I4)) : Prop where
  i : Box Y ib #[.int .i64 x.1, .int .i64 x.2.1, .int .i64 x.2.2.1, .int .i64 x.2.2.2] 45
  p : Box Y pb #[.int .i64 g, fv] 24
  r : PRowL Y (pb + 1) fv acc
  e : Ex w Y
  o : ib < pb
  h : w.heap.size ≤ ib
theorem CB.ex {w Y Y' : World} {ib pb : Nat} {x : I4} {g : Int} {fv : Value} {acc : List (List I4)} (h : CB w Y ib pb x g fv acc) (k : Ex Y Y') : CB w Y' ib pb x g fv acc :=
  ⟨h.i.ex k, h.p.ex k, h.r.chg (k.chg (fun _ => False)) (fun _ _ _ h => h), h.e.trans k, h.o, h.h⟩

theorem cb_start (w : World) (g : Int) (X : I4) : CB w ((w.alloc (.cells #[.int .i64 X.1, .int .i64 X.2.1, .int .i64 X.2.2.1, .int .i64 X.2.2.2] 45)).alloc (.cells #[.int .i64 g, .slice none 0 0] 24)) w.heap.size (w.heap.size + 1) X g (.slice none 0 0) [] := by
  have x2 := Ex.made (w.alloc (.cells #[.int .i64 X.1, .int .i64 X.2.1, .int .i64 X.2.2.1, .int .i64 X.2.2.2] 45)) (.cells #[.int .i64 g, .slice none 0 0] 24)
  refine ⟨(Box.fresh w _ _).ex x2, ?_, ⟨[], rfl, World.ownsRow_nil _ _ _ _, fun i hi => absurd hi (Nat.not_lt_zero i), fun i hi => absurd hi (Nat.not_lt_zero _)⟩, (Ex.made w _).trans x2, by omega, Nat.le_refl _⟩
  have := Box.fresh (w.alloc (.cells #[.int .i64 X.1, .int .i64 X.2.1, .int .i64 X.2.2.1, .int .i64 X.2.2.2] 45)) #[.int .i64 g, .slice none 0 0] 24
  simpa using this
theorem row4_block (Y : World) {base : Nat} (k : Nat) (hb : base ≤ Y.heap.size) (hk : k ≤ 1000) : (Y.alloc (.cells (cells4 (zL k)).toArray 45)).ownsRow base 45 4 (.slice (some ⟨Y.heap.size, 0, none⟩) k k) k (cells4 (zL k)) := by
  have hl : (cells4 (zL k)).length = k * 4 := by rw [cells4_length, zL_length]
  exact ⟨hl, .inr ⟨Y.heap.size, k, (cells4 (zL k)).toArray, rfl, hb, heap_alloc_new Y _, Nat.le_refl _, by unfold maxLen; omega, by simp [hl], by rw [List.toList_toArray, List.take_of_length_le (by omega)]⟩⟩
/-- One function more. -/
theorem cb_step {w wr Yn w6 : World} {ib pb c k nb g' cap' : Nat} {X : I4} {g : Int} {fv : Value} {lvs : List Value} (C : CB w wr ib pb X g fv (List.replicate c (zL k))) (YE : Ex wr Yn) (hn : wr.heap.size ≤ nb)
    (hnew : Yn.ownsRow (pb + 1) 45 4 (.slice (some ⟨nb, 0, none⟩) k k) k (cells4 (zL k))) (l1 : lvs.length = c) (l2 : wr.ownsRow (pb + 1) 30 1 fv c lvs)
    (l3 : ∀ i (h : i < (List.replicate c (zL k)).length), IRow wr (pb + 1) fv.ownBlock (lvs.getD i undef) (List.replicate c (zL k))[i])
    (hown : w6.ownsRow (pb + 1) 30 1 (.slice (some ⟨g', 0, none⟩) (c + 1) cap') (c + 1) (lvs ++ [.slice (some ⟨nb, 0, none⟩) k k])) (hgrow : Yn.grownBy w6 fv.ownBlock) (hor : fv.ownBlock = some g' ∨ Yn.heap.size ≤ g') :
    CB w (w6.setCell ⟨pb, 1, none⟩ (.slice (some ⟨g', 0, none⟩) (c + 1) cap')) ib pb X g (.slice (some ⟨g', 0, none⟩) (c + 1) cap') (List.replicate (c + 1) (zL k)) ∧ w6.cell? ⟨pb, 1, none⟩ = some fv ∧ w6.frozen? ⟨pb, 1, none⟩ = false := by
  have hfv : ∀ i, fv.ownBlock = some i → pb + 1 ≤ i ∧ i < wr.heap.size := fun i hi => row_base l2 i hi
  have C6 : Chg (fun i => fv.ownBlock = some i) Yn w6 := Chg.grown (F := fun i => fv.ownBlock = some i) hgrow (fun i hi => hi)
  have CN := C.ex YE
  have p6 := CN.p.chg C6 (fun h => by have := hfv _ h; omega)
  have i6 := CN.i.chg C6 (fun h => by have := hfv _ h; have := C.o; omega)
  have hpl : pb < wr.heap.size := C.p.lt
  have key := PRowL.snoc (acc := List.replicate c (zL k)) (l := zL k) (n := k) (c := k) (nb := nb) (g := g') (cap := cap') (w := Yn) (w1 := w6) (by rw [l1, List.length_replicate]) (by rw [List.length_replicate]; exact row_chg l2 (YE.chg (fun _ => False)) (fun _ _ h => h))
    (fun i hi => (l3 i hi).chg (YE.chg (fun _ => False)) (fun _ _ h => h)) ⟨by rw [zL_length]; exact hnew, fun q hq e => by cases hq; have := hfv _ e; dsimp only at this; omega⟩ (fun i hi b hb => by have := (row_base (l3 i hi).1 b hb).2; omega)
    (by rw [List.length_replicate]; exact hown) C6 hor
  rw [List.length_replicate, ← List.replicate_succ'] at key
  have cs := Chg.cell (F := fun i => i = pb) w6 ⟨pb, 1, none⟩ (.slice (some ⟨g', 0, none⟩) (c + 1) cap') rfl
  refine ⟨⟨i6.put_other (by have := C.o; omega) 1 _, p6.put 1 _, key.chg cs (fun q h1 h2 h3 => by omega), ?_, C.o, C.h⟩, p6.cell 1, p6.soft 1⟩
  have e6 : Ex w w6 := Below.trans CN.e (C6.below CN.e.size (fun i hi => by have := hfv i hi; have := C.o; have := C.h; omega))
  exact Below.trans e6 (cs.below e6.size (fun i hi => by have := C.o; have := C.h; omega))

theorem cells4_set : ∀ (l : List I4) (i : Nat) (p : I4), cells4 (l.set i p) = ((((cells4 l).set (i * 4) (.int .i64 p.1)).set (i * 4 + 1) (.int .i64 p.2.1)).set (i * 4 + 2) (.int .i64 p.2.2.1)).set (i * 4 + 3) (.int .i64 p.2.2.2)
  | [], i, p => by simp [cells4]
  | q :: l, 0, p => by simp [cells4]
  | q :: l, i + 1, p => by
    have ih := cells4_set l i p
    rw [show (i + 1) * 4 = i * 4 + 4 by omega, show i * 4 + 4 + 1 = i * 4 + 1 + 4 by omega, show i * 4 + 4 + 2 = i * 4 + 2 + 4 by omega, show i * 4 + 4 + 3 = i * 4 + 3 + 4 by omega]
    simpa [cells4] using ih
theorem zL_last (k : Nat) (X : I4) (hk : 1 ≤ k) : (zL k).set (k - 1) X = zL (k - 1) ++ [X] := by
  obtain ⟨j, rfl⟩ : ∃ j, k = j + 1 := ⟨k - 1, by omega⟩
  unfold zL
  rw [show j + 1 - 1 = j from rfl, List.replicate_succ', List.set_append_right _ _ (by simp)]
  simp
/-- The last function's last instruction put. -/
def put4 (w : World) (b o : Nat) (X : I4) : World := (((w.setCell ⟨b, o, none⟩ (.int .i64 X.1)).setCell ⟨b, o + 1, none⟩ (.int .i64 X.2.1)).setCell ⟨b, o + 2, none⟩ (.int .i64 X.2.2.1)).setCell ⟨b, o + 3, none⟩ (.int .i64 X.2.2.2)
theorem put4_chg (w : World) (b o : Nat) (X : I4) : Chg (fun i => i = b) w (put4 w b o X) :=
  (((Chg.cell (F := fun i => i = b) w ⟨b, o, none⟩ _ rfl).trans (Chg.cell (F := fun i => i = b) _ ⟨b, o + 1, none⟩ _ rfl) (fun _ _ h => h)).trans (Chg.cell (F := fun i => i = b) _ ⟨b, o + 2, none⟩ _ rfl) (fun _ _ h => h)).trans (Chg.cell (F := fun i => i = b) _ ⟨b, o + 3, none⟩ _ rfl) (fun _ _ h => h)
theorem bnd_at {f k i : Nat} {X : I4} (h : i + 1 < f) : (bndF f k X)[i]? = some (zL k) := by
  unfold bndF
  rw [List.getElem?_append_left (by simp; omega), List.getElem?_replicate, if_pos (by omega)]
theorem bnd_end {f k : Nat} {X : I4} : (bndF f k X)[f - 1]? = some (zL (k - 1) ++ [X]) := by
  unfold bndF
  rw [List.getElem?_append_right (by simp)]
  simp
theorem cb_last {w wr : World} {ib pb f k : Nat} {X : I4} {g : Int} {fv : Value} (C : CB w wr ib pb X g fv (List.replicate f (zL k))) (hf : 1 ≤ f) (hk : 1 ≤ k) :
    ∃ fb fc nb nc : Nat, fv = .slice (some ⟨fb, 0, none⟩) f fc ∧ f ≤ fc ∧ k ≤ nc ∧ fb < wr.heap.size ∧ nb < wr.heap.size ∧ pb < fb ∧ pb < nb ∧ fb ≠ nb ∧ wr.cell? ⟨fb, f - 1, none⟩ = some (.slice (some ⟨nb, 0, none⟩) k nc) ∧
      (∀ j, j < k * 4 → wr.cell? ⟨nb, j, none⟩ = (cells4 (zL k))[j]?) ∧ (∀ j, wr.frozen? ⟨nb, j, none⟩ = false) ∧ RdP (put4 wr nb ((k - 1) * 4) X) fv (bndF f k X) ∧ pb + 1 ≤ nb := by
  obtain ⟨lvs, l1, l2, l3, l4⟩ := C.r
  rw [List.length_replicate] at l1 l2 l4
  rcases row_shape l2 with ⟨-, h0, -⟩ | ⟨fb, fc, rfl, hfb1, hfb2, hfc, -⟩
  · omega
  have hlast := l3 (f - 1) (by rw [List.length_replicate]; omega)
  have he : (List.replicate f (zL k))[f - 1]'(by rw [List.length_replicate]; omega) = zL k := by simp
  rw [he] at hlast
  obtain ⟨hrow, hap⟩ := hlast
  rw [zL_length] at hrow
  rcases row_shape hrow with ⟨-, h0, -⟩ | ⟨nb, nc, hlv, hnb1, hnb2, hnc, -⟩
  · omega
  have hcell : wr.cell? ⟨fb, f - 1, none⟩ = some (.slice (some ⟨nb, 0, none⟩) k nc) := by
    have := World.ownsRow.cellAt l2 (f - 1) (by omega)
    rw [this, ← hlv]
    simp [l1, show f - 1 < f by omega]
  rw [hlv] at hrow
  have hne : fb ≠ nb := fun e => hap nb (by rw [hlv]; rfl) (by rw [e]; rfl)
  refine ⟨fb, fc, nb, nc, rfl, hfc, hnc, hfb2, hnb2, by omega, by omega, hne, hcell, fun j hj => World.ownsRow.cellAt hrow j hj, fun j => World.ownsRow.frozenAt hrow j, ?_, by omega⟩
  have hch := put4_chg wr nb ((k - 1) * 4) X
  have hb : (bndF f k X).length = f := by simp [bndF]; omega
  have hnew : (put4 wr nb ((k - 1) * 4) X).ownsRow (pb + 1) 45 4 (.slice (some ⟨nb, 0, none⟩) k nc) k (cells4 (zL (k - 1) ++ [X])) := by
    rw [← zL_last k X hk, cells4_set]
    exact (World.ownsRow.stored (World.ownsRow.stored (World.ownsRow.stored (World.ownsRow.stored hrow _ _).1 _ _).1 _ _).1 _ _).1
  refine RdP.of (base := pb + 1) ⟨lvs, by rw [hb]; exact l1, by rw [hb]; exact row_chg l2 hch (fun q hq e => by cases hq; exact hne (by dsimp only at e; exact e)), fun i hi => ?_⟩
  rw [hb] at hi
  by_cases hlt : i + 1 < f
  · have e1 : (bndF f k X)[i]'(by rw [hb]; exact hi) = zL k := (List.getElem?_eq_some_iff.1 (bnd_at hlt)).2
    rw [e1]
    have h3 := l3 i (by rw [List.length_replicate]; exact hi)
    have e2 : (List.replicate f (zL k))[i]'(by rw [List.length_replicate]; exact hi) = zL k := by simp
    rw [e2] at h3
    exact h3.chg hch (fun q hq e => by subst e; exact l4 i hlt q hq (by rw [hlv]; rfl))
  · obtain rfl : i = f - 1 := by omega
    have e1 : (bndF f k X)[f - 1]'(by rw [hb]; omega) = zL (k - 1) ++ [X] := (List.getElem?_eq_some_iff.1 bnd_end).2
    rw [e1]
    refine ⟨?_, fun q hq => ?_⟩
    · rw [hlv, show (zL (k - 1) ++ [X]).length = k by simp [zL]; omega]
      exact hnew
    · exact hap q hq

--WALK
set_option maxRecDepth 20000 in
set_option maxHeartbeats 12800000 in
theorem bounds_walk (which n gl fu si : Int) (w : World) :
    Calls Try.prog 8 #[.int .i64 which, .int .i64 n, .int .i64 gl, .int .i64 fu, .int .i64 si] w fun e w' => e = .returned (.bool true) ∧ Below w.heap.size w w' := by
  obtain ⟨g, hg⟩ : ∃ r, (IntKind.u64.wrap gl).tmod 33 = r := ⟨_, rfl⟩
  obtain ⟨g1, g2⟩ := umod_bd gl 33 (by omega)
  rw [hg] at g1 g2
  obtain ⟨fr, hf⟩ : ∃ r, (IntKind.u64.wrap fu).tmod 16 = r := ⟨_, rfl⟩
  obtain ⟨f1, f2⟩ := umod_bd fu 16 (by omega)
  rw [hf] at f1 f2
  obtain ⟨kr, hk⟩ : ∃ r, (IntKind.u64.wrap si).tmod 64 = r := ⟨_, rfl⟩
  obtain ⟨k1, k2⟩ := umod_bd si 64 (by omega)
  rw [hk] at k1 k2
  obtain ⟨xr, hx⟩ : ∃ r, (IntKind.u64.wrap n).tmod 300 = r := ⟨_, rfl⟩
  obtain ⟨x1, x2⟩ := umod_bd n 300 (by omega)
  rw [hx] at x1 x2
  obtain ⟨qr, hq⟩ : ∃ r, (IntKind.u64.wrap which).tmod 7 = r := ⟨_, rfl⟩
  obtain ⟨q1, q2⟩ := umod_bd which 7 (by omega)
  rw [hq] at q1 q2
  obtain ⟨f, hfe⟩ : ∃ f : Nat, 1 + fr = (f : Int) := ⟨(1 + fr).toNat, by omega⟩
  obtain ⟨k, hke⟩ : ∃ f : Nat, 1 + kr = (f : Int) := ⟨(1 + kr).toNat, by omega⟩
  obtain ⟨x, hxe⟩ : ∃ x, xr - 20 = x := ⟨_, rfl⟩
  have f3 : 1 ≤ f := by omega
  have f4 : f ≤ 16 := by omega
  have k3 : 1 ≤ k := by omega
  have k4 : k ≤ 64 := by omega
  have HFE := Lib.hid hfe
  have HKE := Lib.hid hke
  have HXE := Lib.hid hxe
  clear hfe hke hxe
  go_enter Try.func8, Try.ntmps8
  go_upto_region 2 with fail
  rw [HFE.out, HKE.out, HXE.out]
  clear HFE HKE HXE hg hf hk hx f1 f2 k1 k2
  rcases (by omega : qr = 0 ∨ qr = 1 ∨ qr = 2 ∨ qr = 3 ∨ qr = 4 ∨ qr = 5 ∨ qr = 6) with rfl | rfl | rfl | rfl | rfl | rfl | rfl
  go_upto_region 19 with fail
  have hC : CB w ((w.alloc (.cells #[.int .i64 2, .int .i64 x, .int .i64 0, .int .i64 0] 45)).alloc (.cells #[.int .i64 g, .slice none 0 0] 24)) w.heap.size (w.heap.size + 1) (bI 0 x) g (.slice none 0 0) [] := cb_start w g (bI 0 x)
  have HW : Hid (0 ≤ wrongI g f k (bI 0 x) ↔ (x < 0 ∨ (16 : Int) ≤ x)) := Lib.hid (wrong_bI 0 (by omega))
  obtain ⟨X, hX⟩ : ∃ X, bI 0 x = X := ⟨_, rfl⟩
  rw [hX] at hC HW
  obtain ⟨W, hW⟩ : ∃ W, W = (w.alloc (.cells #[.int .i64 2, .int .i64 x, .int .i64 0, .int .i64 0] 45)).alloc (.cells #[.int .i64 g, .slice none 0 0] 24) := ⟨_, rfl⟩
  rw [← hW] at hC ⊢
  obtain ⟨pb, hpb⟩ : ∃ b, w.heap.size + 1 = b := ⟨_, rfl⟩
  rw [hpb] at hC ⊢
  obtain ⟨ib, hib⟩ : ∃ b, w.heap.size = b := ⟨_, rfl⟩
  rw [hib] at hC ⊢
  have C0 := Lib.hid hC
  clear hC hW hX hpb hib hq
  rotate_left
  go_upto_region 19 with fail
  have hC : CB w ((w.alloc (.cells #[.int .i64 3, .int .i64 0, .int .i64 x, .int .i64 0] 45)).alloc (.cells #[.int .i64 g, .slice none 0 0] 24)) w.heap.size (w.heap.size + 1) (bI 1 x) g (.slice none 0 0) [] := cb_start w g (bI 1 x)
  have HW : Hid (0 ≤ wrongI g f k (bI 1 x) ↔ (x < 0 ∨ (256 : Int) ≤ x)) := Lib.hid (wrong_bI 1 (by omega))
  obtain ⟨X, hX⟩ : ∃ X, bI 1 x = X := ⟨_, rfl⟩
  rw [hX] at hC HW
  obtain ⟨W, hW⟩ : ∃ W, W = (w.alloc (.cells #[.int .i64 3, .int .i64 0, .int .i64 x, .int .i64 0] 45)).alloc (.cells #[.int .i64 g, .slice none 0 0] 24) := ⟨_, rfl⟩
  rw [← hW] at hC ⊢
  obtain ⟨pb, hpb⟩ : ∃ b, w.heap.size + 1 = b := ⟨_, rfl⟩
  rw [hpb] at hC ⊢
  obtain ⟨ib, hib⟩ : ∃ b, w.heap.size = b := ⟨_, rfl⟩
  rw [hib] at hC ⊢
  have C0 := Lib.hid hC
  clear hC hW hX hpb hib hq
  rotate_left
  go_upto_region 19 with fail
  have hC : CB w ((w.alloc (.cells #[.int .i64 6, .int .i64 0, .int .i64 x, .int .i64 0] 45)).alloc (.cells #[.int .i64 g, .slice none 0 0] 24)) w.heap.size (w.heap.size + 1) (bI 2 x) g (.slice none 0 0) [] := cb_start w g (bI 2 x)
  have HW : Hid (0 ≤ wrongI g f k (bI 2 x) ↔ (x < 0 ∨ g ≤ x)) := Lib.hid (wrong_bI 2 (by omega))
  obtain ⟨X, hX⟩ : ∃ X, bI 2 x = X := ⟨_, rfl⟩
  rw [hX] at hC HW
  obtain ⟨W, hW⟩ : ∃ W, W = (w.alloc (.cells #[.int .i64 6, .int .i64 0, .int .i64 x, .int .i64 0] 45)).alloc (.cells #[.int .i64 g, .slice none 0 0] 24) := ⟨_, rfl⟩
  rw [← hW] at hC ⊢
  obtain ⟨pb, hpb⟩ : ∃ b, w.heap.size + 1 = b := ⟨_, rfl⟩
  rw [hpb] at hC ⊢
  obtain ⟨ib, hib⟩ : ∃ b, w.heap.size = b := ⟨_, rfl⟩
  rw [hib] at hC ⊢
  have C0 := Lib.hid hC
  clear hC hW hX hpb hib hq
  rotate_left
  go_upto_region 19 with fail
  have hC : CB w ((w.alloc (.cells #[.int .i64 7, .int .i64 x, .int .i64 0, .int .i64 0] 45)).alloc (.cells #[.int .i64 g, .slice none 0 0] 24)) w.heap.size (w.heap.size + 1) (bI 3 x) g (.slice none 0 0) [] := cb_start w g (bI 3 x)
  have HW : Hid (0 ≤ wrongI g f k (bI 3 x) ↔ (x < 0 ∨ g ≤ x)) := Lib.hid (wrong_bI 3 (by omega))
  obtain ⟨X, hX⟩ : ∃ X, bI 3 x = X := ⟨_, rfl⟩
  rw [hX] at hC HW
  obtain ⟨W, hW⟩ : ∃ W, W = (w.alloc (.cells #[.int .i64 7, .int .i64 x, .int .i64 0, .int .i64 0] 45)).alloc (.cells #[.int .i64 g, .slice none 0 0] 24) := ⟨_, rfl⟩
  rw [← hW] at hC ⊢
  obtain ⟨pb, hpb⟩ : ∃ b, w.heap.size + 1 = b := ⟨_, rfl⟩
  rw [hpb] at hC ⊢
  obtain ⟨ib, hib⟩ : ∃ b, w.heap.size = b := ⟨_, rfl⟩
  rw [hib] at hC ⊢
  have C0 := Lib.hid hC
  clear hC hW hX hpb hib hq
  rotate_left
  go_upto_region 19 with fail
  have hC : CB w ((w.alloc (.cells #[.int .i64 8, .int .i64 x, .int .i64 0, .int .i64 0] 45)).alloc (.cells #[.int .i64 g, .slice none 0 0] 24)) w.heap.size (w.heap.size + 1) (bI 4 x) g (.slice none 0 0) [] := cb_start w g (bI 4 x)
  have HW : Hid (0 ≤ wrongI g f k (bI 4 x) ↔ (x < 0 ∨ (f : Int) ≤ x)) := Lib.hid (wrong_bI 4 (by omega))
  obtain ⟨X, hX⟩ : ∃ X, bI 4 x = X := ⟨_, rfl⟩
  rw [hX] at hC HW
  obtain ⟨W, hW⟩ : ∃ W, W = (w.alloc (.cells #[.int .i64 8, .int .i64 x, .int .i64 0, .int .i64 0] 45)).alloc (.cells #[.int .i64 g, .slice none 0 0] 24) := ⟨_, rfl⟩
  rw [← hW] at hC ⊢
  obtain ⟨pb, hpb⟩ : ∃ b, w.heap.size + 1 = b := ⟨_, rfl⟩
  rw [hpb] at hC ⊢
  obtain ⟨ib, hib⟩ : ∃ b, w.heap.size = b := ⟨_, rfl⟩
  rw [hib] at hC ⊢
  have C0 := Lib.hid hC
  clear hC hW hX hpb hib hq
  rotate_left
  go_upto_region 19 with fail
  have hC : CB w ((w.alloc (.cells #[.int .i64 14, .int .i64 x, .int .i64 0, .int .i64 0] 45)).alloc (.cells #[.int .i64 g, .slice none 0 0] 24)) w.heap.size (w.heap.size + 1) (bI 5 x) g (.slice none 0 0) [] := cb_start w g (bI 5 x)
  have HW : Hid (0 ≤ wrongI g f k (bI 5 x) ↔ (x < 0 ∨ (k : Int) ≤ x)) := Lib.hid (wrong_bI 5 (by omega))
  obtain ⟨X, hX⟩ : ∃ X, bI 5 x = X := ⟨_, rfl⟩
  rw [hX] at hC HW
  obtain ⟨W, hW⟩ : ∃ W, W = (w.alloc (.cells #[.int .i64 14, .int .i64 x, .int .i64 0, .int .i64 0] 45)).alloc (.cells #[.int .i64 g, .slice none 0 0] 24) := ⟨_, rfl⟩
  rw [← hW] at hC ⊢
  obtain ⟨pb, hpb⟩ : ∃ b, w.heap.size + 1 = b := ⟨_, rfl⟩
  rw [hpb] at hC ⊢
  obtain ⟨ib, hib⟩ : ∃ b, w.heap.size = b := ⟨_, rfl⟩
  rw [hib] at hC ⊢
  have C0 := Lib.hid hC
  clear hC hW hX hpb hib hq
  rotate_left
  go_upto_region 19 with fail
  have hC : CB w ((w.alloc (.cells #[.int .i64 11, .int .i64 x, .int .i64 0, .int .i64 0] 45)).alloc (.cells #[.int .i64 g, .slice none 0 0] 24)) w.heap.size (w.heap.size + 1) (bI 6 x) g (.slice none 0 0) [] := cb_start w g (bI 6 x)
  have HW : Hid (0 ≤ wrongI g f k (bI 6 x) ↔ (x < 0 ∨ (32 : Int) ≤ x)) := Lib.hid (wrong_bI 6 (by omega))
  obtain ⟨X, hX⟩ : ∃ X, bI 6 x = X := ⟨_, rfl⟩
  rw [hX] at hC HW
  obtain ⟨W, hW⟩ : ∃ W, W = (w.alloc (.cells #[.int .i64 11, .int .i64 x, .int .i64 0, .int .i64 0] 45)).alloc (.cells #[.int .i64 g, .slice none 0 0] 24) := ⟨_, rfl⟩
  rw [← hW] at hC ⊢
  obtain ⟨pb, hpb⟩ : ∃ b, w.heap.size + 1 = b := ⟨_, rfl⟩
  rw [hpb] at hC ⊢
  obtain ⟨ib, hib⟩ : ∃ b, w.heap.size = b := ⟨_, rfl⟩
  rw [hib] at hC ⊢
  have C0 := Lib.hid hC
  clear hC hW hX hpb hib hq
  rotate_left
  all_goals
    go_wp2_with fail
    go_loopw [18] (fun iv wr => ∃ (c : Nat) (fv : Value), c ≤ f ∧ iv = .int .i64 (c : Int) ∧ CB w wr ib pb X g fv (List.replicate c (zL k))) (fun iv _ => f - (intOf iv).toNat)
    case atStart => exact ⟨0, .slice none 0 0, by omega, rfl, C0.out⟩
    case round =>
    obtain ⟨c, fv, hcf, rfl, hcb0⟩ := hrel
    have C := Lib.hid hcb0
    clear hcb0 C0
    by_cases hlt : c < f
    · have hlt' : (c : Int) < (f : Int) := by omega
      obtain ⟨lvs, l1, l2, l3, -⟩ := C.out.r
      rw [List.length_replicate] at l1 l2
      have L1 := Lib.hid l1
      have L2 := Lib.hid l2
      have L3 := Lib.hid l3
      clear l1 l2 l3
      obtain ⟨i0, hi, hz0, hz1, hz2⟩ := info_parts info_row
      go_upto_region 22 with fail
      refine wp_region_held_drew (S := fun _ => True) (by kernel_rfl) trivial (fun hHeld => ?_)
      have D0 := Lib.hid (C.out.ex (ex_drew wr))
      have EE0 := Lib.hid (ex_drew wr)
      generalize wr.drew = Y0 at *
      refine wpAnyH_take (i := 0) (v := ?_) rfl (by kernel_rfl) (by kernel_rfl) (by kernel_rfl) (fun _ _ _ h => h) (Or.inl ⟨by rfl, ?_⟩) (by first | assumption | trivial) ?_
      rotate_left
      · intro w hSw; (try dsimp only at hSw); go_simp; try with_reducible rfl
      try simp only [Act.put, List.setIfInBounds_toArray, List.set_cons_zero, List.set_cons_succ]
      refine wpAnyH_take (i := 2) (v := ?_) rfl (by kernel_rfl) (by kernel_rfl) (by kernel_rfl) (fun _ _ _ h => h) (Or.inl ⟨by rfl, ?_⟩) (by first | assumption | trivial) ?_
      rotate_left
      · intro w hSw; (try dsimp only at hSw); go_simp; try with_reducible rfl
      try simp only [Act.put, List.setIfInBounds_toArray, List.set_cons_zero, List.set_cons_succ]
      refine wpAnyH_ready (rs := [1, 3]) (by kernel_rfl) (by simp) ?_
      refine AllReadyH.cons rfl (fun K hK => ?_) (AllReadyH.cons rfl (fun K hK => ?_) AllReadyH.nil)
      have y1 : Y0.cell? ⟨pb, 1, none⟩ = some fv := D0.out.p.cell 1
      go_simp
      refine hK.out _ _ trivial (fun hHeld => ?_)
      clear hK K y1
      try simp only [Act.put, List.setIfInBounds_toArray, List.set_cons_zero, List.set_cons_succ]
      refine wpAnyH_ready (rs := [3]) (by kernel_rfl) (by simp) ?_
      refine AllReadyH.cons rfl (fun K hK => ?_) AllReadyH.nil
      have hmk := make_insts Y0 k (by omega)
      go_simp
      refine hK.out _ _ trivial (fun hHeld => ?_)
      clear hK K hmk
      try simp only [Act.put, List.setIfInBounds_toArray, List.set_cons_zero, List.set_cons_succ]
      have hrow := row4_block Y0 (base := pb + 1) k (by have := D0.out.p.lt; omega) (by omega)
      have hx := Ex.made Y0 (.cells (cells4 (zL k)).toArray 45)
      have hnb := EE0.out.size
      obtain ⟨nb, hnbe⟩ : ∃ b, Y0.heap.size = b := ⟨_, rfl⟩
      rw [hnbe] at hrow hnb ⊢
      obtain ⟨Y1, hY⟩ : ∃ Y, Y = Y0.alloc (.cells (cells4 (zL k)).toArray 45) := ⟨_, rfl⟩
      rw [← hY] at hrow hx ⊢
      have D1 := Lib.hid (D0.out.ex hx)
      have EE1 := Lib.hid (EE0.out.trans hx)
      have RW1 := Lib.hid hrow
      have HNB := Lib.hid hnb
      clear hY hx hrow hnbe hnb
      refine wpAnyH_ready (rs := [4]) (by kernel_rfl) (by simp) ?_
      refine AllReadyH.cons rfl (fun K hK => ?_) AllReadyH.nil
      go_simp
      refine hK.out _ _ trivial (fun hHeld => ?_)
      clear hK K
      try simp only [Act.put, List.setIfInBounds_toArray, List.set_cons_zero, List.set_cons_succ]
      have hx := Ex.made Y1 (.cells #[.slice (some ⟨nb, 0, none⟩) k k] 30)
      have hn := Box.fresh Y1 #[.slice (some ⟨nb, 0, none⟩) k k] 30
      obtain ⟨sb, hsb⟩ : ∃ b, Y1.heap.size = b := ⟨_, rfl⟩
      rw [hsb] at hn ⊢
      obtain ⟨Y2, hY⟩ : ∃ Y, Y = Y1.alloc (.cells #[.slice (some ⟨nb, 0, none⟩) k k] 30) := ⟨_, rfl⟩
      rw [← hY] at hn hx ⊢
      have D2 := Lib.hid (D1.out.ex hx)
      have EE2 := Lib.hid (EE1.out.trans hx)
      have RW2 := Lib.hid (row_chg RW1.out (hx.chg (fun _ => False)) (fun _ _ h => h))
      have SB := Lib.hid hn
      clear hY hx hn hsb
      refine wpAnyH_ready (rs := [5]) (by kernel_rfl) (by simp) ?_
      refine AllReadyH.cons rfl (fun K hK => ?_) AllReadyH.nil
      have hnews : ∀ (j : Nat) (u : Value), [Value.slice (some ⟨nb, 0, none⟩) k k][j]? = some u → Y2.cell? ((⟨sb, 0, none⟩ : Addr).add j) = some u := by
        intro j u hj
        rw [add_plain, Nat.zero_add, SB.out.cell j]
        simpa using hj
      have hl5 := row_chg L2.out (EE2.out.chg (fun _ => False)) (fun _ _ h => h)
      have hbs : pb + 1 ≤ Y2.heap.size := by have := D2.out.p.lt; omega
      refine step_append_lies _ rfl (.tmp 83) (.tmp 86) 22 rfl (pb + 1) 30 i0 (.slice none 0 0) 1 24 Try.underlying22 hi hz0 hz1 hz2 rfl (by decide) _ _ _ rfl hl5 ⟨sb, 0, none⟩ 1 1 [.slice (some ⟨nb, 0, none⟩) k k] rfl rfl hnews (one_cell rfl) (by omega) (by unfold maxLen; omega) (by omega) hbs _ rfl ?_
      intro g' cap' w6 hown hgrow hor hlt3
      obtain ⟨hcb, hy, hys⟩ := cb_step C.out EE2.out HNB.out RW2.out L1.out L2.out L3.out hown hgrow (by rcases hor with h | h; exact .inl h; exact .inr (by omega))
      have CB6 := Lib.hid hcb
      clear hcb hown hgrow hor hnews hl5 hbs
      refine hK.out _ _ trivial (fun hHeld => ?_)
      clear hK K
      try simp only [Act.put, List.setIfInBounds_toArray, List.set_cons_zero, List.set_cons_succ]
      refine wpAnyH_ready (rs := [6]) (by kernel_rfl) (by simp) ?_
      refine AllReadyH.cons rfl (fun K hK => ?_) AllReadyH.nil
      go_simp
      refine hK.out _ _ trivial (fun hHeld => ?_)
      clear hK K
      try simp only [Act.put, List.setIfInBounds_toArray, List.set_cons_zero, List.set_cons_succ]
      refine wpAnyH_ready (rs := [7]) (by kernel_rfl) (by simp) ?_
      refine AllReadyH.cons rfl (fun K hK => ?_) AllReadyH.nil
      go_simp
      refine hK.out _ _ trivial (fun hHeld => ?_)
      clear hK K
      try simp only [Act.put, List.setIfInBounds_toArray, List.set_cons_zero, List.set_cons_succ]
      refine wpAnyH_done (by kernel_rfl) ?_ _
      rotate_left
      have hmk := make_insts Y0 k (by omega)
      go_simp
      refine hK.out _ _ trivial (fun hHeld => ?_)
      clear hK K hmk
      try simp only [Act.put, List.setIfInBounds_toArray, List.set_cons_zero, List.set_cons_succ]
      have hrow := row4_block Y0 (base := pb + 1) k (by have := D0.out.p.lt; omega) (by omega)
      have hx := Ex.made Y0 (.cells (cells4 (zL k)).toArray 45)
      have hnb := EE0.out.size
      obtain ⟨nb, hnbe⟩ : ∃ b, Y0.heap.size = b := ⟨_, rfl⟩
      rw [hnbe] at hrow hnb ⊢
      obtain ⟨Y1, hY⟩ : ∃ Y, Y = Y0.alloc (.cells (cells4 (zL k)).toArray 45) := ⟨_, rfl⟩
      rw [← hY] at hrow hx ⊢
      have D1 := Lib.hid (D0.out.ex hx)
      have EE1 := Lib.hid (EE0.out.trans hx)
      have RW1 := Lib.hid hrow
      have HNB := Lib.hid hnb
      clear hY hx hrow hnbe hnb
      refine wpAnyH_ready (rs := [1, 4]) (by kernel_rfl) (by simp) ?_
      refine AllReadyH.cons rfl (fun K hK => ?_) (AllReadyH.cons rfl (fun K hK => ?_) AllReadyH.nil)
      have y1 : Y1.cell? ⟨pb, 1, none⟩ = some fv := D1.out.p.cell 1
      go_simp
      refine hK.out _ _ trivial (fun hHeld => ?_)
      clear hK K y1
      try simp only [Act.put, List.setIfInBounds_toArray, List.set_cons_zero, List.set_cons_succ]
      refine wpAnyH_ready (rs := [4]) (by kernel_rfl) (by simp) ?_
      refine AllReadyH.cons rfl (fun K hK => ?_) AllReadyH.nil
      go_simp
      refine hK.out _ _ trivial (fun hHeld => ?_)
      clear hK K
      try simp only [Act.put, List.setIfInBounds_toArray, List.set_cons_zero, List.set_cons_succ]
      have hx := Ex.made Y1 (.cells #[.slice (some ⟨nb, 0, none⟩) k k] 30)
      have hn := Box.fresh Y1 #[.slice (some ⟨nb, 0, none⟩) k k] 30
      obtain ⟨sb, hsb⟩ : ∃ b, Y1.heap.size = b := ⟨_, rfl⟩
      rw [hsb] at hn ⊢
      obtain ⟨Y2, hY⟩ : ∃ Y, Y = Y1.alloc (.cells #[.slice (some ⟨nb, 0, none⟩) k k] 30) := ⟨_, rfl⟩
      rw [← hY] at hn hx ⊢
      have D2 := Lib.hid (D1.out.ex hx)
      have EE2 := Lib.hid (EE1.out.trans hx)
      have RW2 := Lib.hid (row_chg RW1.out (hx.chg (fun _ => False)) (fun _ _ h => h))
      have SB := Lib.hid hn
      clear hY hx hn hsb
      refine wpAnyH_ready (rs := [5]) (by kernel_rfl) (by simp) ?_
      refine AllReadyH.cons rfl (fun K hK => ?_) AllReadyH.nil
      have hnews : ∀ (j : Nat) (u : Value), [Value.slice (some ⟨nb, 0, none⟩) k k][j]? = some u → Y2.cell? ((⟨sb, 0, none⟩ : Addr).add j) = some u := by
        intro j u hj
        rw [add_plain, Nat.zero_add, SB.out.cell j]
        simpa using hj
      have hl5 := row_chg L2.out (EE2.out.chg (fun _ => False)) (fun _ _ h => h)
      have hbs : pb + 1 ≤ Y2.heap.size := by have := D2.out.p.lt; omega
      refine step_append_lies _ rfl (.tmp 83) (.tmp 86) 22 rfl (pb + 1) 30 i0 (.slice none 0 0) 1 24 Try.underlying22 hi hz0 hz1 hz2 rfl (by decide) _ _ _ rfl hl5 ⟨sb, 0, none⟩ 1 1 [.slice (some ⟨nb, 0, none⟩) k k] rfl rfl hnews (one_cell rfl) (by omega) (by unfold maxLen; omega) (by omega) hbs _ rfl ?_
      intro g' cap' w6 hown hgrow hor hlt3
      obtain ⟨hcb, hy, hys⟩ := cb_step C.out EE2.out HNB.out RW2.out L1.out L2.out L3.out hown hgrow (by rcases hor with h | h; exact .inl h; exact .inr (by omega))
      have CB6 := Lib.hid hcb
      clear hcb hown hgrow hor hnews hl5 hbs
      refine hK.out _ _ trivial (fun hHeld => ?_)
      clear hK K
      try simp only [Act.put, List.setIfInBounds_toArray, List.set_cons_zero, List.set_cons_succ]
      refine wpAnyH_ready (rs := [6]) (by kernel_rfl) (by simp) ?_
      refine AllReadyH.cons rfl (fun K hK => ?_) AllReadyH.nil
      go_simp
      refine hK.out _ _ trivial (fun hHeld => ?_)
      clear hK K
      try simp only [Act.put, List.setIfInBounds_toArray, List.set_cons_zero, List.set_cons_succ]
      refine wpAnyH_ready (rs := [7]) (by kernel_rfl) (by simp) ?_
      refine AllReadyH.cons rfl (fun K hK => ?_) AllReadyH.nil
      go_simp
      refine hK.out _ _ trivial (fun hHeld => ?_)
      clear hK K
      try simp only [Act.put, List.setIfInBounds_toArray, List.set_cons_zero, List.set_cons_succ]
      refine wpAnyH_done (by kernel_rfl) ?_ _
      rotate_left
      go_simp
      refine hK.out _ _ trivial (fun hHeld => ?_)
      clear hK K
      try simp only [Act.put, List.setIfInBounds_toArray, List.set_cons_zero, List.set_cons_succ]
      have hx := Ex.made Y1 (.cells #[.slice (some ⟨nb, 0, none⟩) k k] 30)
      have hn := Box.fresh Y1 #[.slice (some ⟨nb, 0, none⟩) k k] 30
      obtain ⟨sb, hsb⟩ : ∃ b, Y1.heap.size = b := ⟨_, rfl⟩
      rw [hsb] at hn ⊢
      obtain ⟨Y2, hY⟩ : ∃ Y, Y = Y1.alloc (.cells #[.slice (some ⟨nb, 0, none⟩) k k] 30) := ⟨_, rfl⟩
      rw [← hY] at hn hx ⊢
      have D2 := Lib.hid (D1.out.ex hx)
      have EE2 := Lib.hid (EE1.out.trans hx)
      have RW2 := Lib.hid (row_chg RW1.out (hx.chg (fun _ => False)) (fun _ _ h => h))
      have SB := Lib.hid hn
      clear hY hx hn hsb
      refine wpAnyH_ready (rs := [1]) (by kernel_rfl) (by simp) ?_
      refine AllReadyH.cons rfl (fun K hK => ?_) AllReadyH.nil
      have y1 : Y2.cell? ⟨pb, 1, none⟩ = some fv := D2.out.p.cell 1
      go_simp
      refine hK.out _ _ trivial (fun hHeld => ?_)
      clear hK K y1
      try simp only [Act.put, List.setIfInBounds_toArray, List.set_cons_zero, List.set_cons_succ]
      refine wpAnyH_ready (rs := [5]) (by kernel_rfl) (by simp) ?_
      refine AllReadyH.cons rfl (fun K hK => ?_) AllReadyH.nil
      have hnews : ∀ (j : Nat) (u : Value), [Value.slice (some ⟨nb, 0, none⟩) k k][j]? = some u → Y2.cell? ((⟨sb, 0, none⟩ : Addr).add j) = some u := by
        intro j u hj
        rw [add_plain, Nat.zero_add, SB.out.cell j]
        simpa using hj
      have hl5 := row_chg L2.out (EE2.out.chg (fun _ => False)) (fun _ _ h => h)
      have hbs : pb + 1 ≤ Y2.heap.size := by have := D2.out.p.lt; omega
      refine step_append_lies _ rfl (.tmp 83) (.tmp 86) 22 rfl (pb + 1) 30 i0 (.slice none 0 0) 1 24 Try.underlying22 hi hz0 hz1 hz2 rfl (by decide) _ _ _ rfl hl5 ⟨sb, 0, none⟩ 1 1 [.slice (some ⟨nb, 0, none⟩) k k] rfl rfl hnews (one_cell rfl) (by omega) (by unfold maxLen; omega) (by omega) hbs _ rfl ?_
      intro g' cap' w6 hown hgrow hor hlt3
      obtain ⟨hcb, hy, hys⟩ := cb_step C.out EE2.out HNB.out RW2.out L1.out L2.out L3.out hown hgrow (by rcases hor with h | h; exact .inl h; exact .inr (by omega))
      have CB6 := Lib.hid hcb
      clear hcb hown hgrow hor hnews hl5 hbs
      refine hK.out _ _ trivial (fun hHeld => ?_)
      clear hK K
      try simp only [Act.put, List.setIfInBounds_toArray, List.set_cons_zero, List.set_cons_succ]
      refine wpAnyH_ready (rs := [6]) (by kernel_rfl) (by simp) ?_
      refine AllReadyH.cons rfl (fun K hK => ?_) AllReadyH.nil
      go_simp
      refine hK.out _ _ trivial (fun hHeld => ?_)
      clear hK K
      try simp only [Act.put, List.setIfInBounds_toArray, List.set_cons_zero, List.set_cons_succ]
      refine wpAnyH_ready (rs := [7]) (by kernel_rfl) (by simp) ?_
      refine AllReadyH.cons rfl (fun K hK => ?_) AllReadyH.nil
      go_simp
      refine hK.out _ _ trivial (fun hHeld => ?_)
      clear hK K
      try simp only [Act.put, List.setIfInBounds_toArray, List.set_cons_zero, List.set_cons_succ]
      refine wpAnyH_done (by kernel_rfl) ?_ _
      rotate_left
      all_goals
        go_wp2_with fail
        go_roundw
        case rel => exact ⟨c + 1, _, by omega, by go_num, CB6.out⟩
        case measure => simp [intOf]; omega
    · have hlt' : (f : Int) ≤ (c : Int) := by omega
      obtain rfl : f = c := by omega
      obtain ⟨X0, X1, X2, X3⟩ := X
      obtain ⟨fb, fc, nb, nc, rfl, hfc, hnc, hfb, hnb, o1, o2, hne, hcell, hcs, hfr, hR, hbase⟩ := cb_last C.out f3 k3
      have hio := C.out.o
      have hih := C.out.h
      obtain ⟨fp, hfp⟩ : ∃ fp, f - 1 = fp := ⟨_, rfl⟩
      obtain ⟨kp, hkp⟩ : ∃ kp, k - 1 = kp := ⟨_, rfl⟩
      rw [hfp] at hcell
      rw [hkp] at hR
      have hkl : kp < (zL k).length := by rw [zL_length]; omega
      have hzk : (zL k)[kp] = zI := by simp [zL]
      obtain ⟨c0, c1, c2, c3⟩ := cells4_at (zL k) kp hkl
      rw [hzk] at c0 c1 c2 c3
      have z0 : wr.cell? ⟨nb, kp * 4, none⟩ = some (.int .i64 0) := by rw [hcs _ (by omega)]; exact c0
      have z1 : wr.cell? ⟨nb, kp * 4 + 1, none⟩ = some (.int .i64 0) := by rw [hcs _ (by omega)]; exact c1
      have z2 : wr.cell? ⟨nb, kp * 4 + 2, none⟩ = some (.int .i64 0) := by rw [hcs _ (by omega)]; exact c2
      have z3 : wr.cell? ⟨nb, kp * 4 + 3, none⟩ = some (.int .i64 0) := by rw [hcs _ (by omega)]; exact c3
      have r0 := hfr (kp * 4)
      have r1 := hfr (kp * 4 + 1)
      have r2 := hfr (kp * 4 + 2)
      have r3 := hfr (kp * 4 + 3)
      have v0 : wr.cell? ⟨ib, 0, none⟩ = some (.int .i64 X0) := C.out.i.cell 0
      have v1 : wr.cell? ⟨ib, 1, none⟩ = some (.int .i64 X1) := C.out.i.cell 1
      have v2 : wr.cell? ⟨ib, 2, none⟩ = some (.int .i64 X2) := C.out.i.cell 2
      have v3 : wr.cell? ⟨ib, 3, none⟩ = some (.int .i64 X3) := C.out.i.cell 3
      have p1 : wr.cell? ⟨pb, 1, none⟩ = some (.slice (some ⟨fb, 0, none⟩) f fc) := C.out.p.cell 1
      have n1 : ¬ nb = pb := by omega
      have n2 : ¬ nb = fb := fun e => hne e.symm
      have n3 : ¬ nb = ib := by omega
      have n4 : ¬ pb = nb := by omega
      have n5 : ¬ fb = nb := hne
      have n6 : ¬ ib = nb := by omega
      have cp := put4_chg wr nb (kp * 4) (X0, X1, X2, X3)
      have P9 := Lib.hid (((C.out.p.chg cp (by omega)).ex (ex_drew _)))
      have R9 := Lib.hid (hR.ex (ex_drew _))
      have E9 : Hid (Ex w (put4 wr nb (kp * 4) (X0, X1, X2, X3)).drew) := Lib.hid (Ex.trans (Below.trans C.out.e (cp.below C.out.e.size (fun i hi => by omega))) (ex_drew _))
      have hm : mayI g (bndF f k (X0, X1, X2, X3)) = if 0 ≤ wrongI g f k (X0, X1, X2, X3) then 1 + (f : Int) * k else 0 := may_bounds g1 (by omega) f3 f4 k3 k4
      have hfk1 : (f : Int) * (k : Int) ≤ 1024 := by
        have h1 : (f : Int) * (k : Int) ≤ 16 * 64 := Int.mul_le_mul (by omega) (by omega) (by omega) (by omega)
        omega
      have hfk0 : 0 ≤ (f : Int) * (k : Int) := Int.mul_nonneg (by omega) (by omega)
      have HMM := Lib.hid hm
      have q1 : (0 : Int) ≤ (fp : Int) := by omega
      have q2 : (fp : Int) < (f : Int) := by omega
      have q3 : (0 : Int) ≤ (kp : Int) := by omega
      have q4 : (kp : Int) < (k : Int) := by omega
      have kf : IntKind.i64.wrap ((f : Int) - 1) = (fp : Int) := by rw [IntWalk.i64_in _ (by omega)]; omega
      have kk : IntKind.i64.wrap ((k : Int) - 1) = (kp : Int) := by rw [IntWalk.i64_in _ (by omega)]; omega
      clear hm hR hcs hfr c0 c1 c2 c3 hzk hkl hfp hkp cp hne
      go_upto_region 23 with fail
      refine wp_region_held_drew (S := fun w' => w'.cell? ⟨pb, 1, none⟩ = some (.slice (some ⟨fb, 0, none⟩) f fc) ∧ w'.cell? ⟨fb, fp, none⟩ = some (.slice (some ⟨nb, 0, none⟩) k nc) ∧ w'.cell? ⟨ib, 0, none⟩ = some (.int .i64 X0) ∧ w'.cell? ⟨ib, 1, none⟩ = some (.int .i64 X1) ∧ w'.cell? ⟨ib, 2, none⟩ = some (.int .i64 X2) ∧ w'.cell? ⟨ib, 3, none⟩ = some (.int .i64 X3)) (by kernel_rfl) ?_ (fun hHeld => ?_)
      · go_keep
      refine wpAnyH_take (i := 0) (v := ?_) rfl (by kernel_rfl) (by kernel_rfl) (by kernel_rfl) (fun _ _ _ h => h) (Or.inl ⟨by rfl, ?_⟩) (by first | assumption | trivial) ?_
      rotate_left
      · intro w hSw; (try dsimp only at hSw); go_simp; try with_reducible rfl
      try simp only [Act.put, List.setIfInBounds_toArray, List.set_cons_zero, List.set_cons_succ]
      refine wpAnyH_take (i := 1) (v := ?_) rfl (by kernel_rfl) (by kernel_rfl) (by kernel_rfl) (fun _ _ _ h => h) (Or.inl ⟨by rfl, ?_⟩) (by first | assumption | trivial) ?_
      rotate_left
      · intro w hSw; (try dsimp only at hSw); go_simp; try with_reducible rfl
      try simp only [Act.put, List.setIfInBounds_toArray, List.set_cons_zero, List.set_cons_succ]
      refine wpAnyH_take (i := 2) (v := ?_) rfl (by kernel_rfl) (by kernel_rfl) (by kernel_rfl) (fun _ _ _ h => h) (Or.inl ⟨by rfl, ?_⟩) (by first | assumption | trivial) ?_
      rotate_left
      · intro w hSw; (try dsimp only at hSw); go_simp; try with_reducible rfl
      try simp only [Act.put, List.setIfInBounds_toArray, List.set_cons_zero, List.set_cons_succ]
      refine wpAnyH_take (i := 3) (v := ?_) rfl (by kernel_rfl) (by kernel_rfl) (by kernel_rfl) (fun _ _ _ h => h) (Or.inl ⟨by rfl, ?_⟩) (by first | assumption | trivial) ?_
      rotate_left
      · intro w hSw; (try dsimp only at hSw); go_simp; try with_reducible rfl
      try simp only [Act.put, List.setIfInBounds_toArray, List.set_cons_zero, List.set_cons_succ]
      refine wpAnyH_take (i := 4) (v := ?_) rfl (by kernel_rfl) (by kernel_rfl) (by kernel_rfl) (fun _ _ _ h => h) (Or.inl ⟨by rfl, ?_⟩) (by first | assumption | trivial) ?_
      rotate_left
      · intro w hSw; (try dsimp only at hSw); go_simp; try with_reducible rfl
      try simp only [Act.put, List.setIfInBounds_toArray, List.set_cons_zero, List.set_cons_succ]
      refine wpAnyH_take (i := 5) (v := ?_) rfl (by kernel_rfl) (by kernel_rfl) (by kernel_rfl) (fun _ _ _ h => h) (Or.inl ⟨by rfl, ?_⟩) (by first | assumption | trivial) ?_
      rotate_left
      · intro w hSw; (try dsimp only at hSw); go_simp; try with_reducible rfl
      try simp only [Act.put, List.setIfInBounds_toArray, List.set_cons_zero, List.set_cons_succ]
      refine wpAnyH_take (i := 6) (v := ?_) rfl (by kernel_rfl) (by kernel_rfl) (by kernel_rfl) (fun _ _ _ h => h) (Or.inl ⟨by rfl, ?_⟩) (by first | assumption | trivial) ?_
      rotate_left
      · intro w hSw; (try dsimp only at hSw); go_simp; try with_reducible rfl
      try simp only [Act.put, List.setIfInBounds_toArray, List.set_cons_zero, List.set_cons_succ]
      refine wpAnyH_take (i := 7) (v := ?_) rfl (by kernel_rfl) (by kernel_rfl) (by kernel_rfl) (fun _ _ _ h => h) (Or.inl ⟨by rfl, ?_⟩) (by first | assumption | trivial) ?_
      rotate_left
      · intro w hSw; (try dsimp only at hSw); go_simp; try with_reducible rfl
      try simp only [Act.put, List.setIfInBounds_toArray, List.set_cons_zero, List.set_cons_succ]
      refine wpAnyH_take (i := 8) (v := ?_) rfl (by kernel_rfl) (by kernel_rfl) (by kernel_rfl) (fun _ _ _ h => h) (Or.inl ⟨by rfl, ?_⟩) (by first | assumption | trivial) ?_
      rotate_left
      · intro w hSw; (try dsimp only at hSw); go_simp; try with_reducible rfl
      try simp only [Act.put, List.setIfInBounds_toArray, List.set_cons_zero, List.set_cons_succ]
      refine wpAnyH_take (i := 9) (v := ?_) rfl (by kernel_rfl) (by kernel_rfl) (by kernel_rfl) (fun _ _ _ h => h) (Or.inl ⟨by rfl, ?_⟩) (by first | assumption | trivial) ?_
      rotate_left
      · intro w hSw; (try dsimp only at hSw); go_simp; try with_reducible rfl
      try simp only [Act.put, List.setIfInBounds_toArray, List.set_cons_zero, List.set_cons_succ]
      refine wpAnyH_ready (rs := [10]) (by kernel_rfl) (by simp) ?_
      refine AllReadyH.cons rfl (fun K hK => ?_) AllReadyH.nil
      go_simp
      refine hK.out _ _ ?_ (fun hHeld => ?_)
      · go_keep
      clear hK K
      try simp only [Act.put, List.setIfInBounds_toArray, List.set_cons_zero, List.set_cons_succ]
      refine wpAnyH_done (by kernel_rfl) ?_ _
      clear z0 z1 z2 z3 r0 r1 r2 r3 v0 v1 v2 v3 p1 n1 n2 n3 n4 n5 n6 kf kk hHeld hcell
      obtain ⟨W9, hW9⟩ : ∃ W, W = (put4 wr nb (kp * 4) (X0, X1, X2, X3)).drew := ⟨_, rfl⟩
      rw [← hW9] at P9 R9 E9
      unfold put4 at hW9
      dsimp only at hW9
      rw [← hW9]
      clear hW9
      have x0 := P9.out.cell 0
      have x1 := P9.out.cell 1
      have EA := Lib.hid (fun (W : World) (h : RdP W (.slice (some ⟨fb, 0, none⟩) f fc) (bndF f k (X0, X1, X2, X3))) => (encode_any (g := g) h).mono (fun e w' h => enc_all h))
      have MA := Lib.hid (fun (W : World) (h : RdP W (.slice (some ⟨fb, 0, none⟩) f fc) (bndF f k (X0, X1, X2, X3))) => may_any (g := g) h)
      have MB := Lib.hid (fun (W : World) (h : RdP W (.slice (some ⟨fb, 0, none⟩) f fc) (bndF f k (X0, X1, X2, X3))) => rmay_any (g := g) h)
      obtain ⟨fk, hfk⟩ : ∃ z, (f : Int) * (k : Int) = z := ⟨_, rfl⟩
      rw [hfk] at hfk0 hfk1 HMM
      by_cases hw : 0 ≤ wrongI g f k (X0, X1, X2, X3)
      · have hm := HMM.out
        rw [if_pos hw] at hm
        have hb : ((1 + fk) == 0) = false := by simp; omega
        have hn0 : ¬ (1 + fk = 0) := by omega
        simp only [hm, if_neg hn0] at EA MA MB
        by_cases hx0 : x < 0
        · clear hm HMM
          go_wp2_with fail
          refine (EA.out W9 R9.out).mono ?_
          rintro e w2 ⟨ba, bn, bc, rfl, hx, -⟩
          have E10 := Lib.hid (E9.out.trans hx)
          have R10 := Lib.hid (R9.out.ex hx)
          have P10 := Lib.hid (P9.out.ex hx)
          clear hx x0 x1
          go_wp2_with fail
          refine (told_any w2).mono ?_
          rintro e w3 ⟨rfl, hx⟩
          have E11 := Lib.hid (E10.out.trans hx)
          have R11 := Lib.hid (R10.out.ex hx)
          have P11 := Lib.hid (P10.out.ex hx)
          have x0 := P11.out.cell 0
          have x1 := P11.out.cell 1
          clear hx E10 R10 P10
          go_wp2_with fail
          refine (MA.out w3 R11.out).mono ?_
          rintro e w4 ⟨rfl, hx⟩
          have E12 := Lib.hid (E11.out.trans hx)
          have R12 := Lib.hid (R11.out.ex hx)
          have P12 := Lib.hid (P11.out.ex hx)
          clear hx E11 R11 P11 x0 x1
          have x0 := P12.out.cell 0
          have x1 := P12.out.cell 1
          go_wp2_with fail
          refine (MB.out w4 R12.out).mono ?_
          rintro e w5 ⟨rfl, hx⟩
          have E13 := Lib.hid (E12.out.trans hx)
          clear hx E12 R12 P12 x0 x1
          go_wp2_with fail
          go_ret
          exact ⟨by simp, E13.out⟩
        · have hxM := (HW.out.1 hw).resolve_left hx0
          have hx0' : 0 ≤ x := by omega
          clear hm HMM
          go_wp2_with fail
          refine (EA.out W9 R9.out).mono ?_
          rintro e w2 ⟨ba, bn, bc, rfl, hx, -⟩
          have E10 := Lib.hid (E9.out.trans hx)
          have R10 := Lib.hid (R9.out.ex hx)
          have P10 := Lib.hid (P9.out.ex hx)
          clear hx x0 x1
          go_wp2_with fail
          refine (told_any w2).mono ?_
          rintro e w3 ⟨rfl, hx⟩
          have E11 := Lib.hid (E10.out.trans hx)
          have R11 := Lib.hid (R10.out.ex hx)
          have P11 := Lib.hid (P10.out.ex hx)
          have x0 := P11.out.cell 0
          have x1 := P11.out.cell 1
          clear hx E10 R10 P10
          go_wp2_with fail
          refine (MA.out w3 R11.out).mono ?_
          rintro e w4 ⟨rfl, hx⟩
          have E12 := Lib.hid (E11.out.trans hx)
          have R12 := Lib.hid (R11.out.ex hx)
          have P12 := Lib.hid (P11.out.ex hx)
          clear hx E11 R11 P11 x0 x1
          have x0 := P12.out.cell 0
          have x1 := P12.out.cell 1
          go_wp2_with fail
          refine (MB.out w4 R12.out).mono ?_
          rintro e w5 ⟨rfl, hx⟩
          have E13 := Lib.hid (E12.out.trans hx)
          clear hx E12 R12 P12 x0 x1
          go_wp2_with fail
          go_ret
          exact ⟨by simp, E13.out⟩
      · have hm := HMM.out
        rw [if_neg hw] at hm
        have hx0 : 0 ≤ x := Int.not_lt.1 (fun h => hw (HW.out.2 (.inl h)))
        have hxM := Int.not_le.1 (fun h => hw (HW.out.2 (.inr h)))
        simp only [hm, if_pos] at EA MA MB
        clear hm HMM
        go_wp2_with fail
        refine (EA.out W9 R9.out).mono ?_
        rintro e w2 ⟨ba, bn, bc, rfl, hx, -⟩
        have E10 := Lib.hid (E9.out.trans hx)
        have R10 := Lib.hid (R9.out.ex hx)
        have P10 := Lib.hid (P9.out.ex hx)
        clear hx x0 x1
        go_wp2_with fail
        refine (told_any w2).mono ?_
        rintro e w3 ⟨rfl, hx⟩
        have E11 := Lib.hid (E10.out.trans hx)
        have R11 := Lib.hid (R10.out.ex hx)
        have P11 := Lib.hid (P10.out.ex hx)
        have x0 := P11.out.cell 0
        have x1 := P11.out.cell 1
        clear hx E10 R10 P10
        go_wp2_with fail
        refine (MA.out w3 R11.out).mono ?_
        rintro e w4 ⟨rfl, hx⟩
        have E12 := Lib.hid (E11.out.trans hx)
        have R12 := Lib.hid (R11.out.ex hx)
        have P12 := Lib.hid (P11.out.ex hx)
        clear hx E11 R11 P11 x0 x1
        have x0 := P12.out.cell 0
        have x1 := P12.out.cell 1
        go_wp2_with fail
        refine (MB.out w4 R12.out).mono ?_
        rintro e w5 ⟨rfl, hx⟩
        have E13 := Lib.hid (E12.out.trans hx)
        clear hx E12 R12 P12 x0 x1
        go_wp2_with fail
        go_ret
        exact ⟨by simp, E13.out⟩

end Go.Proofs.Ytmajnjbjoagihaa
