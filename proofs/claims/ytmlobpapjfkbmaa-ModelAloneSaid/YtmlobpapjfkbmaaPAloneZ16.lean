/- ModelAlone: its arguments. -/
import Derived.Test.YtmlobpapjfkbmaaPAlone16
import Derived.Test.YtmlobpapjfkbmaaPOpen16
import Derived.Deep.Grids
namespace Go.Proofs.Ytmlobpapjfkbmaa
open Go.ChangeShapes Go.WideShapes Go.ChangeAt Go.RowKit Go.Deep
set_option linter.unusedVariables false
set_option maxRecDepth 20000
set_option linter.unusedSimpArgs false

theorem prog_in {H : Type} {enc : TypeId × Value → H} {w : World} {r : Reach} {b0 : Nat} {v : Value} {d : DataW H} {p : List MemPlace} (hv : Value.okWide Try.prog w r b0 24 v) (h : DataW.Trod enc Try.prog w 0 (fun _ => true) true 24 v d p) :
    ∃ (g : Int) (fv : Value) (F : Fns), v = .agg #[.int .i64 g, fv] ∧ C15.RdP w fv F ∧ F.length ≤ maxLen := C15.prog_in hv h
theorem turns_in {H : Type} {enc : TypeId × Value → H} {w : World} {fuel : Nat} {a : Option Addr} {len cap : Nat} {x : DataW H × List MemPlace} (h : DataW.trod enc Try.prog w 0 (fun _ => true) true fuel 25 [.slice a len cap] = some x) :
    TurnsAt w a len ∧ len ≤ maxLen := by
  rcases open_bools Try.underlying25 Try.underlying4 (by kernel_rfl) h with ⟨hcs, _⟩ | ⟨⟨b, off, spot⟩, len', cap', Z, hcs, -, hl, hm, -, hf⟩
  · simp at hcs
    obtain ⟨rfl, rfl, rfl⟩ := hcs
    exact ⟨.inl rfl, by unfold maxLen; omega⟩
  · simp at hcs
    obtain ⟨rfl, rfl, rfl⟩ := hcs
    refine ⟨?_, by omega⟩
    by_cases h0 : len = 0
    · exact .inl h0
    · right
      have hc := hf 0 (by omega)
      have hspot : spot = none := by simpa [Addr.add] using World.cell?_spot hc
      subst hspot
      refine ⟨b, off, rfl, ?_, fun i hi => ⟨Z i, ?_⟩⟩
      · simp only [World.cell?, Addr.add] at hc
        by_cases hlt : b < w.heap.size
        · exact hlt
        · simp [Array.getElem?_eq_none (Nat.not_lt.1 hlt)] at hc
      · have := hf i (by omega)
        rw [Addr.add_lit] at this
        exact this

theorem walk_ModelAlone {w : World} {g : Int} {fv : Value} {F : Fns} (h : C15.RdP w fv F) (hF : F.length ≤ maxLen) {ta : Option Addr} {N tc : Nat} (ht : TurnsAt w ta N) (hnc : N ≤ maxLen) :
    Calls Try.prog 3 #[.agg #[.int .i64 g, fv], .slice ta N tc] w fun e w' => e = .returned (.bool true) ∧ Below w.heap.size w w' := alone_walk h hF ta N tc ht hnc

end Go.Proofs.Ytmlobpapjfkbmaa
