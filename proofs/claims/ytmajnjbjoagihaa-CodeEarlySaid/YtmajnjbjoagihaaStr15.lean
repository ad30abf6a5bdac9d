/- Strings to bytes; what is held in a region may grow. -/
import Derived.Test.YtmajnjbjoagihaaLawB15
import Derived.Lib.ConvBytes
namespace Go.Proofs.Ytmajnjbjoagihaa
open Go.RowKit
set_option linter.unusedVariables false
set_option linter.unusedSimpArgs false

/-- What a string's bytes are. -/
def numS (t : ByteArray) : List Int := t.data.toList.map fun b => (b.toNat : Int)
theorem numS_length (t : ByteArray) : (numS t).length = t.size := by
  unfold numS
  rw [List.length_map, Array.length_toList]
  rfl
theorem bytes_ex (w : World) (e : TypeId) (t : ByteArray) : Ex w (Lib.bytesWorld w e t) := by
  refine ⟨?_, ?_, ?_, by rw [Lib.bytesWorld_size]; omega, fun j hj => Lib.bytesWorld_at_old w e t j hj⟩ <;> simp [Lib.bytesWorld, World.freeze, World.alloc, World.drew, -World.alloc_eq, -World.drew_eq]
theorem bytes_bs (w : World) (t : ByteArray) (c : Nat) (hc : t.size ≤ c) (hl : t.size ≤ 100000) : Bs (Lib.bytesWorld w 5 t) (.slice (some ⟨w.heap.size, 0, none⟩) t.size c) (numS t) := by
  refine ⟨by rw [numS_length]; exact hl, fun x hx => ?_, .inr ⟨w.heap.size, 0, c, by rw [numS_length], by rw [Lib.bytesWorld_size]; omega, by rw [numS_length]; exact hc, fun i hi => ?_⟩⟩
  · unfold numS at hx
    obtain ⟨b, -, rfl⟩ := List.mem_map.1 hx
    have := b.toNat_lt
    omega
  · rw [numS_length] at hi
    rw [Nat.zero_add, Lib.bytesWorld_cell w _ t i hi]
    have : i < t.data.toList.length := by rw [Array.length_toList]; exact hi
    have h2 : (numS t)[i]? = some ((t.data.toList[i]).toNat : Int) := by unfold numS; rw [List.getElem?_map, List.getElem?_eq_getElem this]; rfl
    have h3 := (List.getElem?_eq_some_iff.1 h2).2
    rw [h3]
    simp [List.getD, List.getElem?_eq_getElem this]
theorem grown_le (w : World) (n : Nat) (e : TypeId) : n ≤ grownCap w n 0 e := grownCap_ge w n 0 e

theorem wpAnyH_strong {P : Program} {md : Region.Mode} {ops : Array Oper} {Q : Exit → Act → World → Prop} {S S' : World → Prop} (hs : ∀ w, S' w → S w) : ∀ (fuel : Nat) (listed : Array Bool) (a : Act) (w : World), wpAnyH P md ops Q S' fuel listed a w → wpAnyH P md ops Q S fuel listed a w
  | 0, _, _, _, h => h
  | fuel + 1, _, _, _, h => ⟨h.1, fun i hi => wpOp_mono (fun a' w' h' => ⟨hs _ h'.1, wpAnyH_strong hs fuel _ a' w' h'.2⟩) (h.2 i hi)⟩

/-- What is held from here on: all that there is now. -/
theorem wpAnyH_now {P : Program} {md : Region.Mode} {ops : Array Oper} {Q : Exit → Act → World → Prop} {W0 w : World} {fuel : Nat} {listed : Array Bool} {a : Act} (h : Ex W0 w) (k : Ex w w → wpAnyH P md ops Q (fun w' => Ex w w') fuel listed a w) : wpAnyH P md ops Q (fun w' => Ex W0 w') fuel listed a w :=
  wpAnyH_strong (fun _ h' => h.trans h') fuel listed a w (k (Ex.refl w))
theorem conv_one {W w : World} {b : Nat} {c : Int} (h : Box W b #[.int .u8 c] 5) (x : Ex W w) : (convert 25 9 (.slice (some ⟨b, 0, none⟩) 1 1)).run Try.prog w = .ok (.string (strOfNums [c])) w :=
  run_convert_bytes_arg (P := Try.prog) w 25 5 Try.underlying25 Try.underlying5 b 0 1 1 [c] rfl (fun i hi => by
    obtain rfl : i = 0 := by omega
    exact (h.ex x).cell 0) 9 Try.underlying9
theorem size_ext (S : ByteArray) (a b : Nat) : (S.extract a b).size ≤ S.size := by
  rw [ByteArray.size_extract]; omega
theorem size_app (S T : ByteArray) : (S ++ T).size = S.size + T.size := ByteArray.size_append

theorem str_sel {Y : World} {b : Nat} {S : ByteArray} {k : Nat} {ch : Int} (h : Box Y b #[.string (S.extract 0 k ++ strOfNums [ch] ++ S.extract (k + 1) S.size), .string (S.extract 0 k ++ S.extract (k + 1) S.size), .string (S.extract 0 k ++ strOfNums [ch] ++ S.extract k S.size), .string (S.extract 0 k), .string (S ++ strOfNums [ch])] 9)
    (hk : k ≤ S.size) (q : Nat) (hq : (q : Int) < 5) (h8 : S.size ≤ 5000) : ∃ T : ByteArray, Y.cell? ⟨b, q, none⟩ = some (.string T) ∧ T.size ≤ 20000 := by
  have e1 : (strOfNums [ch]).size = 1 := rfl
  rcases (by omega : q = 0 ∨ q = 1 ∨ q = 2 ∨ q = 3 ∨ q = 4) with rfl | rfl | rfl | rfl | rfl
  · exact ⟨_, h.cell 0, by have := size_ext S 0 k; have := size_ext S (k + 1) S.size; rw [size_app, size_app]; omega⟩
  · exact ⟨_, h.cell 1, by have := size_ext S 0 k; have := size_ext S (k + 1) S.size; rw [size_app]; omega⟩
  · exact ⟨_, h.cell 2, by have := size_ext S 0 k; have := size_ext S k S.size; rw [size_app, size_app]; omega⟩
  · exact ⟨_, h.cell 3, by have := size_ext S 0 k; omega⟩
  · exact ⟨_, h.cell 4, by rw [size_app]; omega⟩

end Go.Proofs.Ytmajnjbjoagihaa
