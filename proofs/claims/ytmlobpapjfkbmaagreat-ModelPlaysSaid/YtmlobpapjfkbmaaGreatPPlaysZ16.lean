/- ModelPlays: its arguments. -/
import Derived.Test.YtmlobpapjfkbmaaGreatPPlays16Z
import Derived.Test.YtmlobpapjfkbmaaGreatPOpen16
import Derived.Deep.Grids
namespace Go.Proofs.YtmlobpapjfkbmaaGreat
open Go.ChangeShapes Go.WideShapes Go.ChangeAt Go.RowKit Go.Deep
set_option linter.unusedVariables false
set_option maxRecDepth 20000
set_option linter.unusedSimpArgs false

theorem prog_in {H : Type} {enc : TypeId × Value → H} {w : World} {r : Reach} {b0 : Nat} {v : Value} {d : DataW H} {p : List MemPlace} (hv : Value.okWide Tryz.prog w r b0 24 v) (h : DataW.Trod enc Tryz.prog w 0 (fun _ => true) true 24 v d p) :
    ∃ (g : Int) (fv : Value) (F : Fns), v = .agg #[.int .i64 g, fv] ∧ C15.RdP w fv F ∧ F.length ≤ maxLen := C15.prog_in hv h
theorem picks_in {H : Type} {enc : TypeId × Value → H} {w : World} {fuel : Nat} {a : Option Addr} {len cap : Nat} {x : DataW H × List MemPlace} (h : DataW.trod enc Tryz.prog w 0 (fun _ => true) true fuel 25 [.slice a len cap] = some x) :
    PicksAt w a len ∧ len ≤ maxLen := by
  rcases C15.open_slice_fields Tryz.underlying25 Tryz.underlying35 (by kernel_rfl) (by kernel_rfl) h with ⟨hcs, _⟩ | ⟨⟨b, off, spot⟩, len', cap', m, hcs, hl, hm, hmm, hf⟩
  · simp at hcs
    obtain ⟨rfl, rfl, rfl⟩ := hcs
    exact ⟨.inl rfl, by unfold maxLen; omega⟩
  · simp at hcs
    obtain ⟨rfl, rfl, rfl⟩ := hcs
    simp only [if_true] at hmm
    subst hmm
    refine ⟨?_, Nat.le_trans hl hm⟩
    by_cases h0 : len = 0
    · exact .inl h0
    · right
      have each : ∀ i, i < len → ∃ x y : Int, w.cell? ((⟨b, off, spot⟩ : Addr).add (i * 2 + 0)) = some (.int .i64 x) ∧ w.cell? ((⟨b, off, spot⟩ : Addr).add (i * 2 + 1)) = some (.int .i64 y) := by
        intro i hi
        obtain ⟨v0, y0, n0, c0, t0⟩ := hf i (by omega) 0 _ rfl
        obtain ⟨v1, y1, n1, c1, t1⟩ := hf i (by omega) 1 _ rfl
        obtain ⟨x, e0, -⟩ := DataW.trod_int Tryz.underlying3 t0
        obtain ⟨y, e1, -⟩ := DataW.trod_int Tryz.underlying3 t1
        cases e0; cases e1
        exact ⟨x, y, c0, c1⟩
      obtain ⟨x0, y0, hc, -⟩ := each 0 (by omega)
      have hspot : spot = none := by simpa [Addr.add] using World.cell?_spot hc
      subst hspot
      refine ⟨b, off, rfl, ?_, ?_⟩
      · simp only [World.cell?, Addr.add] at hc
        by_cases hlt : b < w.heap.size
        · exact hlt
        · simp [Array.getElem?_eq_none (Nat.not_lt.1 hlt)] at hc
      · intro i hi
        obtain ⟨x, y, h1, h2⟩ := each i hi
        refine ⟨x, y, ?_, ?_⟩
        · rw [Addr.add_lit] at h1; exact h1
        · rw [Addr.add_lit] at h2; rw [Nat.add_assoc]; exact h2

theorem walk_ModelPlays {w : World} {g : Int} {fv : Value} {F : Fns} (h : C15.RdP w fv F) (hF : F.length ≤ maxLen) {ta : Option Addr} {N tc : Nat} (ht : PicksAt w ta N) (hnc : N ≤ maxLen) :
    Calls Tryz.prog 3 #[.agg #[.int .i64 g, fv], .slice ta N tc] w fun e w' => e = .returned (.bool true) ∧ Below w.heap.size w w' := plays_walk h hF ta N tc ht hnc

end Go.Proofs.YtmlobpapjfkbmaaGreat
