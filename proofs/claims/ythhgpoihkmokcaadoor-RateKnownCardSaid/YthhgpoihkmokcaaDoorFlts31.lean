/- A slice of floats that came in; the table of powers of ten. -/
import Derived.Test.YthhgpoihkmokcaaDoorTold31
import Derived.Test.YthhgpoihkmokcaaDoorRows
import Derived.Deep.Slices
import Derived.Laws.Cover2
import Derived.Lib.LaidTab
import Derived.LaidLaws
import Derived.WalkSmall
import Derived.Stop.LaidErr
import Derived.MakeChecks
import Derived.Lib.ItoaLen
namespace Go.Proofs.YthhgpoihkmokcaaDoor
open Go.RowKit Ieee
set_option linter.unusedVariables false

theorem trod_flt {H : Type} {enc : TypeId × Value → H} {w : World} {base : Nat} {spare : Nat → Bool} {held : Bool} {n : Nat} {v : Value} {y : DataW H × List MemPlace}
    (h : DataW.trod enc Tryd.prog w base spare held n 23 [v] = some y) : ∃ b, v = .float .f64 b := by
  cases n with
  | zero => simp [DataW.trod] at h
  | succ n =>
    unfold DataW.trod at h
    rw [Tryd.underlying23] at h
    split at h <;> simp_all

theorem flts_in {H : Type} {enc : TypeId × Value → H} {w : World} {fuel : Nat} {a : Option Addr} {len cap : Nat} {x : DataW H × List MemPlace} (h : DataW.trod enc Tryd.prog w 0 (fun _ => true) true fuel 22 [.slice a len cap] = some x) :
    ∃ l, Fs w a len l := by
  rcases Go.Deep.open_slice1 Tryd.underlying22 (by kernel_rfl) h with ⟨hcs, _⟩ | ⟨⟨b, off, spot⟩, len', cap', m, n, V, D, Pl, hcs, hb, hl, hm, hmm, hx, hi⟩
  · simp at hcs
    obtain ⟨rfl, rfl, rfl⟩ := hcs
    exact ⟨[], rfl, .inl rfl⟩
  · simp at hcs
    obtain ⟨rfl, rfl, rfl⟩ := hcs
    simp only [if_true] at hmm
    subst hmm
    by_cases h0 : len = 0
    · subst h0
      exact ⟨[], rfl, .inl rfl⟩
    · have each : ∀ i, i < len → ∃ b', w.cell? ((⟨b, off, spot⟩ : Addr).add i) = some (.float .f64 b') := by
        intro i hi'
        obtain ⟨h1, h2⟩ := hi i (by omega)
        obtain ⟨b', e⟩ := trod_flt h2
        exact ⟨b', by rw [h1, e]⟩
      obtain ⟨x0, hc⟩ := each 0 (by omega)
      have hspot : spot = none := by simpa [Addr.add] using World.cell?_spot hc
      subst hspot
      have hbl : b < w.heap.size := by
        simp only [World.cell?, Addr.add] at hc
        by_cases hlt : b < w.heap.size
        · exact hlt
        · simp [Array.getElem?_eq_none (Nat.not_lt.1 hlt)] at hc
      have each2 : ∀ i, i < len → ∃ b', w.cell? ⟨b, off + i, none⟩ = some (.float .f64 b') := by
        intro i hi'
        obtain ⟨b', h⟩ := each i hi'
        rw [Addr.add_lit] at h
        exact ⟨b', h⟩
      obtain ⟨f, hf⟩ : ∃ f : Nat → Nat, ∀ i, i < len → w.cell? ⟨b, off + i, none⟩ = some (.float .f64 (f i)) := by
        refine ⟨fun i => if hi' : i < len then Classical.choose (each2 i hi') else 0, fun i hi' => ?_⟩
        simp only [hi', dif_pos]
        exact Classical.choose_spec (each2 i hi')
      refine ⟨(List.range len).map f, by simp, .inr ⟨b, off, rfl, hbl, fun i hi' => ?_⟩⟩
      rw [hf i hi']
      simp [hi']

theorem gPow : Tryd.prog.globalNamed "internal/strconv.uint64pow10" = some 1 := by kernel_rfl
theorem pow_of {W : World} (h : laidMetH Tryd.prog [("math/bits.deBruijn32tab", Rows.laid_math_bits_deBruijn32tab), ("math/bits.deBruijn64tab", Rows.laid_math_bits_deBruijn64tab), ("internal/strconv.uint64pow10", Rows.laid_internal_strconv_uint64pow10)] W) :
    Lib.TabIs Tryd.prog W "internal/strconv.uint64pow10" .u64 Lib.pow10Tab := by
  rw [MakeChecks.laidMetH_plain _ _ _ (by kernel_rfl)] at h
  exact Lib.tabIs_of_head (rest := []) (n := 20) (t := 76) (e := 55) gPow (by kernel_rfl) (by kernel_rfl) (by kernel_rfl) (by kernel_rfl) (by kernel_rfl) (laidMet.tail (laidMet.tail h))
theorem pow_ex {W W' : World} (h : Lib.TabIs Tryd.prog W "internal/strconv.uint64pow10" .u64 Lib.pow10Tab) (k : Ex W W') : Lib.TabIs Tryd.prog W' "internal/strconv.uint64pow10" .u64 Lib.pow10Tab := by
  refine var?_below (B := W.heap.size) k gPow ?_ h
  unfold Lib.TabIs World.var? at h
  rw [gPow] at h
  simp only [Option.bind_some] at h
  by_cases hlt : 1 < W.heap.size
  · exact hlt
  · rw [Array.getElem?_eq_none (Nat.not_lt.1 hlt)] at h
    cases h
theorem fmt_any {W w : World} (h : Lib.TabIs Tryd.prog W "internal/strconv.uint64pow10" .u64 Lib.pow10Tab) (k : Ex W w) (n : Int) (h0 : 0 ≤ n) (h1 : n ≤ 1125899906842624) :
    Calls Tryd.prog 34 #[.int .i64 n, .int .i64 10] w fun e w' => e = .returned (.string ⟨(Lib.itoa n).toArray⟩) ∧ Ex w w' := by
  refine (Tryd.strconv_FormatInt_10 n (by omega) (by omega) w (pow_ex h k)).mono ?_
  rintro e w' ⟨rfl, kk, os, rfl⟩
  refine ⟨rfl, rfl, rfl, rfl, ?_, fun i hi => ?_⟩
  · simp [Go.Sort.grow]
  · show (w.heap ++ os)[i]? = _
    rw [Array.getElem?_append_left hi]

end Go.Proofs.YthhgpoihkmokcaaDoor
