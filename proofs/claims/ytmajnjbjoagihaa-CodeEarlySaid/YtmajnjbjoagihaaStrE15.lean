/- Strings' bytes. -/
import Derived.Test.YtmajnjbjoagihaaStr15
import Derived.Test.YtmajnjbjoagihaaEarlyP15
import Derived.Lib.SlBytesRow
import Derived.Shelf.Bytes.SlSmallAll
namespace Go.Proofs.Ytmajnjbjoagihaa
open Go.RowKit
set_option linter.unusedVariables false
set_option linter.unusedSimpArgs false

theorem numS_app (A B : ByteArray) : numS (A ++ B) = numS A ++ numS B := by
  unfold numS
  rw [ByteArray.data_append, Array.toList_append, List.map_append]
theorem numS_of (bs : List Int) (h : ∀ b ∈ bs, 0 ≤ b ∧ b < 256) : numS (strOfNums bs) = bs := by
  unfold numS
  rw [strOfNums_data, List.map_map]
  conv => rhs; rw [← List.map_id bs]
  apply List.map_congr_left
  intro b hb
  have := h b hb
  simp only [Function.comp, id]
  have e : (UInt8.ofNat b.toNat).toNat = b.toNat := by
    rw [UInt8.toNat_ofNat']
    omega
  rw [e]
  omega
theorem numS_ext (S : ByteArray) (a b : Nat) : numS (S.extract a b) = ((numS S).drop a).take (b - a) := by
  unfold numS
  rw [Lib.extract_data, List.map_take, List.map_drop]

theorem early_one {S : ByteArray} {bs tb : List Int} {x : Nat} (h : numS S = bs) (ht : ∀ b ∈ tb, 0 ≤ b ∧ b < 256) : ∃ t, numS (S.extract 0 x ++ ⟨#[255]⟩ ++ S.extract (x + 1) S.size ++ strOfNums tb) = bs.take x ++ 255 :: t := by
  refine ⟨numS (S.extract (x + 1) S.size) ++ numS (strOfNums tb), ?_⟩
  rw [numS_app, numS_app, numS_app, numS_ext, h, List.drop_zero, Nat.sub_zero, List.append_assoc, List.append_assoc]
  rfl
theorem early_two {S : ByteArray} {bs tb : List Int} {x : Nat} (h : numS S = bs) (ht : ∀ b ∈ tb, 0 ≤ b ∧ b < 256) : ∃ t, numS (S.extract 0 x ++ ⟨#[255]⟩ ++ strOfNums tb) = bs.take x ++ 255 :: t := by
  refine ⟨numS (strOfNums tb), ?_⟩
  rw [numS_app, numS_app, numS_ext, h, List.drop_zero, Nat.sub_zero, List.append_assoc]
  rfl
theorem early_zero (S : ByteArray) (n : Nat) : ∃ t, numS (⟨#[0]⟩ ++ S.extract 1 n) = 0 :: t := by
  refine ⟨numS (S.extract 1 n), ?_⟩
  rw [numS_app]
  rfl
theorem early_33 {S : ByteArray} {bs : List Int} (n : Nat) {b : Int} {r : List Int} (h : numS S = bs) (hb : bs = b :: r) : ∃ t, numS (S.extract 0 1 ++ ⟨#[33]⟩ ++ S.extract 2 n) = b :: 33 :: t := by
  refine ⟨numS (S.extract 2 n), ?_⟩
  rw [numS_app, numS_app, numS_ext, h, hb, List.append_assoc]
  rfl

theorem conv_zero (W : World) (a : Option Addr) (c : Nat) : (convert 25 9 (.slice a 0 c)).run Try.prog W = .ok (.string (strOfNums [])) W :=
  run_convert_bytes_zero (P := Try.prog) W 25 5 Try.underlying25 Try.underlying5 a c 9 Try.underlying9

/-- What was there, stored again: nothing has turned. -/
theorem store_same {Y : World} {b : Nat} (h : Box Y b #[.int .i64 0, .slice none 0 0] 24) : Ex Y ((Y.setCell ⟨b, 0, none⟩ (.int .i64 0)).setCell ⟨b, 1, none⟩ (.slice none 0 0)) := by
  have hb := (h.put 0 (.int .i64 0)).put 1 (.slice none 0 0)
  have c := (Chg.cell (F := fun i => i = b) Y ⟨b, 0, none⟩ (.int .i64 0) rfl).trans (Chg.cell (F := fun i => i = b) _ ⟨b, 1, none⟩ (.slice none 0 0) rfl) (fun _ _ h => h)
  refine ⟨c.os, c.tape, c.output, c.size, fun i hi => ?_⟩
  by_cases hib : i = b
  · subst hib
    unfold Box at h hb
    rw [hb, h]
    rfl
  · exact c.block i hi hib

end Go.Proofs.Ytmajnjbjoagihaa
