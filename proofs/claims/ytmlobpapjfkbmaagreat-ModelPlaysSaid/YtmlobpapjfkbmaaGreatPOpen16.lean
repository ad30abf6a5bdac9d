/- A program, bytes that came in. -/
import Derived.Test.YtmlobpapjfkbmaaGreatK5
import Derived.ProofKit
import Derived.OpenShut
import Derived.ShutString
import Derived.ChangeOld
import Derived.Below
import Derived.Deep.Slices
import Derived.Deep.Fields
import Derived.ChangeSame
import Derived.Laws.Cover2
import Derived.Lib.SmallJoins
namespace Go.Proofs.YtmlobpapjfkbmaaGreat.C15
open Go.ChangeShapes Go.WideShapes Go.ChangeAt Go.RowKit Go.Deep
set_option linter.unusedVariables false
set_option maxRecDepth 20000
set_option linter.unusedSimpArgs false

theorem add_plain (b off i : Nat) : (⟨b, off, none⟩ : Addr).add i = ⟨b, off + i, none⟩ := by unfold Addr.add; split <;> simp_all

section
variable {H : Type} {enc : TypeId × Value → H} {P : Program} {w : World} {base : Nat} {spare : Nat → Bool} {held : Bool}
/-- A slice of structs of one-cell fields: its cells. -/
theorem open_slice_fields {t e : TypeId} {fs : Array Field} {fuel : Nat} {cs : List Value} {x : DataW H × List MemPlace} (ht : P.underlying t = some (.slice e)) (he : P.underlying e = some (.struct fs))
    (hone : oneCellFields P fs = true) (hC : P.cellsOf e = fs.size) (h : DataW.trod enc P w base spare held fuel t cs = some x) :
    (cs = [.slice none 0 0] ∧ x = (.nil, [])) ∨
    ∃ (a : Addr) (len cap m : Nat), cs = [.slice (some a) len cap] ∧ len ≤ cap ∧ cap ≤ maxLen ∧ m = (if spare a.block then cap else len) ∧
      ∀ i, i < m → ∀ (j : Nat) (f : Field), fs[j]? = some f → ∃ (v : Value) (y : DataW H × List MemPlace) (n : Nat), w.cell? (a.add (i * fs.size + j)) = some v ∧ DataW.trod enc P w base spare held n f.type [v] = some y := by
  rcases open_slice ht h with h0 | ⟨a, len, cap, m, n, D, Pl, hcs, hb, hl, hm, hmm, hx, hi⟩
  · exact .inl h0
  · refine .inr ⟨a, len, cap, m, hcs, hl, hm, hmm, fun i him => ?_⟩
    obtain ⟨cs', hc, ht'⟩ := hi i him
    rw [hC] at hc
    obtain ⟨ys, n', hn', hy, hlen, hyl, hf⟩ := DataW.trod_struct he ht'
    obtain ⟨_, hcl, hat⟩ := World.cells?_some hc
    intro j f hj
    obtain ⟨ho, hk⟩ := hone_of hone j f hj
    have hjl : j < fs.size := (Array.getElem?_eq_some_iff.1 hj).1
    have hcell := hat j hjl
    have hv : cs'[j]? = some (cs'[j]'(by omega)) := List.getElem?_eq_getElem (by omega)
    have h1 := hf j f hj
    rw [ho, hk] at h1
    have hone' : (cs'.drop j).take 1 = [cs'[j]'(by omega)] := by
      rw [List.drop_eq_getElem_cons (by omega)]
      rfl
    rw [hone'] at h1
    have hys : ys[j]? = some (ys[j]'(by omega)) := List.getElem?_eq_getElem (by omega)
    refine ⟨_, _, _, ?_, h1.trans hys⟩
    rw [← Go.Deep.add_add, hcell, hv]
end

theorem list_choose {α : Type} {P : Nat → α → Prop} : ∀ n : Nat, (∀ i, i < n → ∃ x, P i x) → ∃ l : List α, l.length = n ∧ ∀ i (h : i < l.length), P i l[i]
  | 0, _ => ⟨[], rfl, fun i h => absurd h (Nat.not_lt_zero i)⟩
  | n + 1, h => by
    obtain ⟨l, h1, h2⟩ := list_choose n (fun i hi => h i (by omega))
    obtain ⟨x, hx⟩ := h n (by omega)
    refine ⟨l ++ [x], by simp [h1], fun i hi => ?_⟩
    by_cases hlt : i < l.length
    · rw [List.getElem_append_left hlt]; exact h2 i hlt
    · have : i = l.length := by simp at hi; omega
      subst this
      simp only [List.getElem_concat_length]
      rw [h1]; exact hx

theorem cells4_get : ∀ (l : List I4) (j : Nat) (u : Value), (cells4 l)[j]? = some u → ∃ i, ∃ h : i < l.length, (j = i * 4 ∧ u = .int .i64 l[i].1) ∨ (j = i * 4 + 1 ∧ u = .int .i64 l[i].2.1) ∨ (j = i * 4 + 2 ∧ u = .int .i64 l[i].2.2.1) ∨ (j = i * 4 + 3 ∧ u = .int .i64 l[i].2.2.2)
  | [], j, u, h => by simp [cells4] at h
  | p :: l, 0, u, h => ⟨0, by simp, .inl ⟨rfl, by simp [cells4] at h; exact h.symm⟩⟩
  | p :: l, 1, u, h => ⟨0, by simp, .inr (.inl ⟨rfl, by simp [cells4] at h; exact h.symm⟩)⟩
  | p :: l, 2, u, h => ⟨0, by simp, .inr (.inr (.inl ⟨rfl, by simp [cells4] at h; exact h.symm⟩))⟩
  | p :: l, 3, u, h => ⟨0, by simp, .inr (.inr (.inr ⟨rfl, by simp [cells4] at h; exact h.symm⟩))⟩
  | p :: l, j + 4, u, h => by
    have h' : (cells4 l)[j]? = some u := by simpa [cells4] using h
    obtain ⟨i, hi, k⟩ := cells4_get l j u h'
    refine ⟨i + 1, by simp; omega, ?_⟩
    simp only [List.getElem_cons_succ]
    rcases k with ⟨k, e⟩ | ⟨k, e⟩ | ⟨k, e⟩ | ⟨k, e⟩
    · exact .inl ⟨by omega, e⟩
    · exact .inr (.inl ⟨by omega, e⟩)
    · exact .inr (.inr (.inl ⟨by omega, e⟩))
    · exact .inr (.inr (.inr ⟨by omega, e⟩))

theorem cell_lt {w : World} {b off : Nat} {v : Value} (h : w.cell? ⟨b, off, none⟩ = some v) : b < w.heap.size := by
  simp only [World.cell?] at h
  by_cases hlt : b < w.heap.size
  · exact hlt
  · simp [Array.getElem?_eq_none (Nat.not_lt.1 hlt)] at h

theorem insts_in {H : Type} {enc : TypeId × Value → H} {w : World} {fuel : Nat} {v : Value} {x : DataW H × List MemPlace} (h : DataW.trod enc Tryz.prog w 0 (fun _ => true) true fuel 55 [v] = some x) : ∃ l, RdI w v l := by
  rcases open_slice_fields Tryz.underlying55 Tryz.underlying58 (by kernel_rfl) (by kernel_rfl) h with ⟨hcs, _⟩ | ⟨⟨b, off, spot⟩, len, cap, m, hcs, hl, hm, hmm, hf⟩
  · simp at hcs
    exact ⟨[], .inl ⟨⟨_, _, hcs⟩, rfl⟩⟩
  · simp at hcs
    subst hcs
    simp only [if_true] at hmm
    subst hmm
    by_cases h0 : len = 0
    · subst h0
      exact ⟨[], .inl ⟨⟨_, _, rfl⟩, rfl⟩⟩
    have each : ∀ i, i < len → ∃ q : I4, w.cell? ((⟨b, off, spot⟩ : Addr).add (i * 4 + 0)) = some (.int .i64 q.1) ∧ w.cell? ((⟨b, off, spot⟩ : Addr).add (i * 4 + 1)) = some (.int .i64 q.2.1) ∧ w.cell? ((⟨b, off, spot⟩ : Addr).add (i * 4 + 2)) = some (.int .i64 q.2.2.1) ∧ w.cell? ((⟨b, off, spot⟩ : Addr).add (i * 4 + 3)) = some (.int .i64 q.2.2.2) := by
      intro i hi
      obtain ⟨v0, y0, n0, c0, t0⟩ := hf i (by omega) 0 _ rfl
      obtain ⟨v1, y1, n1, c1, t1⟩ := hf i (by omega) 1 _ rfl
      obtain ⟨v2, y2, n2, c2, t2⟩ := hf i (by omega) 2 _ rfl
      obtain ⟨v3, y3, n3, c3, t3⟩ := hf i (by omega) 3 _ rfl
      obtain ⟨q0, e0, -⟩ := DataW.trod_int Tryz.underlying3 t0
      obtain ⟨q1, e1, -⟩ := DataW.trod_int Tryz.underlying3 t1
      obtain ⟨q2, e2, -⟩ := DataW.trod_int Tryz.underlying3 t2
      obtain ⟨q3, e3, -⟩ := DataW.trod_int Tryz.underlying3 t3
      cases e0; cases e1; cases e2; cases e3
      exact ⟨(q0, q1, q2, q3), c0, c1, c2, c3⟩
    obtain ⟨_, hc, -⟩ := each 0 (by omega)
    have hspot : spot = none := by simpa [Addr.add] using World.cell?_spot hc
    subst hspot
    rw [add_plain] at hc
    obtain ⟨l, hll, hq⟩ := list_choose len each
    subst hll
    refine ⟨l, .inr ⟨b, off, _, rfl, cell_lt hc, hl, fun j u hu => ?_⟩⟩
    obtain ⟨i, hi, k⟩ := cells4_get l j u hu
    obtain ⟨k0, k1, k2, k3⟩ := hq i hi
    rw [add_plain] at k0 k1 k2 k3
    rcases k with ⟨rfl, rfl⟩ | ⟨rfl, rfl⟩ | ⟨rfl, rfl⟩ | ⟨rfl, rfl⟩
    · exact k0
    · exact k1
    · exact k2
    · exact k3

/-- A program that came in. -/
theorem prog_in {H : Type} {enc : TypeId × Value → H} {w : World} {r : Reach} {b0 : Nat} {v : Value} {d : DataW H} {p : List MemPlace} (hv : Value.okWide Tryz.prog w r b0 24 v) (h : DataW.Trod enc Tryz.prog w 0 (fun _ => true) true 24 v d p) :
    ∃ (g : Int) (fv : Value) (F : List (List I4)), v = .agg #[.int .i64 g, fv] ∧ RdP w fv F ∧ F.length ≤ maxLen := by
  obtain ⟨v0, v1, y0, y1, n, rfl, -, -, h0, h1⟩ := Go.Joins.open_agg2 Tryz.underlying24 (by kernel_rfl) (by kernel_rfl) hv h
  obtain ⟨g, e0, -⟩ := DataW.trod_int Tryz.underlying3 h0
  cases e0
  rcases open_slice1 Tryz.underlying22 (by kernel_rfl) h1 with ⟨hcs, -⟩ | ⟨⟨b, off, spot⟩, len, cap, m, n', V, D, Pl, hcs, -, hl, hm, hmm, -, hx⟩
  · simp at hcs
    exact ⟨g, v1, [], rfl, .inl ⟨⟨_, _, hcs⟩, rfl⟩, by simp⟩
  · simp at hcs
    subst hcs
    simp only [if_true] at hmm
    subst hmm
    by_cases h0 : len = 0
    · subst h0
      exact ⟨g, _, [], rfl, .inl ⟨⟨_, _, rfl⟩, rfl⟩, by simp⟩
    have hc := (hx 0 (by omega)).1
    have hspot : spot = none := by simpa [Addr.add] using World.cell?_spot hc
    subst hspot
    rw [add_plain] at hc
    obtain ⟨F, hF, hq⟩ := list_choose (P := fun i l => RdI w (V i) l) len (fun i hi => insts_in (hx i (by omega)).2)
    subst hF
    refine ⟨g, _, F, rfl, .inr ⟨b, off, _, V, rfl, cell_lt hc, hl, fun i hi => ⟨?_, hq i hi⟩⟩, by omega⟩
    have := (hx i (by omega)).1
    rw [add_plain] at this
    exact this

end Go.Proofs.YtmlobpapjfkbmaaGreat.C15
