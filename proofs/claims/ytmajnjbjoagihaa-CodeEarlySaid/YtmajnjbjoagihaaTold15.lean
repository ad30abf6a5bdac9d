/- told. -/
import Derived.Test.YtmajnjbjoagihaaDec15
import Derived.Test.YtmajnjbjoagihaaEnc15
import Derived.Test.YtmajnjbjoagihaaSame15
namespace Go.Proofs.Ytmajnjbjoagihaa
open Go.RowKit
set_option linter.unusedVariables false
set_option linter.unusedSimpArgs false

/-- Bytes in a block of their own. -/
theorem bs_new (w : World) (bs : List Int) (cs : Array Value) (hcs : cs = (bV bs).toArray) (hl : bs.length ≤ 100000) (hb : ∀ x ∈ bs, 0 ≤ x ∧ x < 256) (n : Nat) (hn : n = bs.length) : Bs (w.alloc (.cells cs 5)) (.slice (some ⟨w.heap.size, 0, none⟩) n n) bs := by
  subst hcs hn
  refine ⟨hl, hb, .inr ⟨w.heap.size, 0, bs.length, rfl, by simp, Nat.le_refl _, fun i hi => ?_⟩⟩
  have hbx := Box.fresh w (bV bs).toArray 5
  rw [Nat.zero_add, hbx.cell i]
  simp [bV, hi]

def tb1 : List Int := [1, 0, 1, 0, 0, 0, 0]
def tb2 : List Int := [1, 0, 1, 14, 1, 0, 0]
theorem td1 : decD tb1 = .ok (0, [[(0, 0, 0, 0)]]) := by rfl
theorem td2 : decD tb2 = .error 4 := by rfl
theorem tm1 : mayI 0 [[(0, 0, 0, 0)]] = 0 := by rfl
theorem tm2 : mayI 0 [] = 1 := by rfl
theorem te1 : encB 0 [[(0, 0, 0, 0)]] = tb1 := by rfl
theorem ts1 : strOfNums tb1 = ⟨#[1, 0, 1, 0, 0, 0, 0]⟩ := by rfl

set_option maxRecDepth 20000 in
set_option maxHeartbeats 6400000 in
theorem told_any (w : World) : Calls Try.prog 10 #[] w fun e w' => e = .returned (.bool true) ∧ Ex w w' := by
  go_enter Try.func10, Try.ntmps10
  go_wp2_with fail
  have b1 := bs_new w tb1 #[.int .u8 1, .int .u8 0, .int .u8 1, .int .u8 0, .int .u8 0, .int .u8 0, .int .u8 0] rfl (by decide) (by decide) 7 rfl
  have e1 := Ex.made w (.cells #[.int .u8 1, .int .u8 0, .int .u8 1, .int .u8 0, .int .u8 0, .int .u8 0, .int .u8 0] 5)
  refine (decode_any b1).mono ?_
  rintro e w1 hd
  rw [td1] at hd
  obtain ⟨⟨fv, rfl, hR⟩, hx⟩ := hd
  have E1 := Lib.hid (e1.trans hx)
  have R1 := Lib.hid hR
  obtain ⟨fa, cap, rfl⟩ := hR.val
  clear b1 e1 hR hx
  go_upto_region 2 with fail
  have e2 := Ex.made w1 (.cells #[.int .i64 0, .slice fa 1 cap] 24)
  have n2 := Box.fresh w1 #[.int .i64 0, .slice fa 1 cap] 24
  have R2 := Lib.hid (R1.out.ex e2)
  have E2 := Lib.hid (E1.out.trans e2)
  obtain ⟨pb, hpb⟩ : ∃ b, w1.heap.size = b := ⟨_, rfl⟩
  rw [hpb] at n2 ⊢
  obtain ⟨W, hW⟩ : ∃ W, W = w1.alloc (.cells #[.int .i64 0, .slice fa 1 cap] 24) := ⟨_, rfl⟩
  rw [← hW] at e2 n2 R2 E2 ⊢
  have N2 := Lib.hid n2
  clear hW hpb e2 n2 R1 E1
  go_wp2_with fail
  have b1 := bs_new W tb2 #[.int .u8 1, .int .u8 0, .int .u8 1, .int .u8 14, .int .u8 1, .int .u8 0, .int .u8 0] rfl (by decide) (by decide) 7 rfl
  have e1 := Ex.made W (.cells #[.int .u8 1, .int .u8 0, .int .u8 1, .int .u8 14, .int .u8 1, .int .u8 0, .int .u8 0] 5)
  refine (decode_any b1).mono ?_
  rintro e w2 hd
  rw [td2] at hd
  obtain ⟨rfl, hx⟩ := hd
  have E3 := Lib.hid (E2.out.trans (e1.trans hx))
  have R3 := Lib.hid (R2.out.ex (e1.trans hx))
  have N3 := Lib.hid (N2.out.ex (e1.trans hx))
  clear b1 e1 hx E2 R2 N2
  go_upto_region 3 with fail
  have e2 := Ex.made w2 (.cells #[.int .i64 0, .slice none 0 0] 24)
  have R4 := Lib.hid (R3.out.ex e2)
  have E4 := Lib.hid (E3.out.trans e2)
  have N4 := Lib.hid (N3.out.ex e2)
  obtain ⟨V, hV⟩ : ∃ W, W = w2.alloc (.cells #[.int .i64 0, .slice none 0 0] 24) := ⟨_, rfl⟩
  rw [← hV] at R4 E4 N4 ⊢
  have x0 : V.cell? ⟨pb, 0, none⟩ = some (.int .i64 0) := N4.out.cell 0
  have x1 : V.cell? ⟨pb, 1, none⟩ = some (.slice fa 1 cap) := N4.out.cell 1
  clear hV e2 R3 E3 N3
  go_wp2_with fail
  refine (encode_any (g := 0) R4.out).mono ?_
  rintro e w3 (⟨-, v, rfl, hrow, hx⟩ | ⟨h0, -⟩)
  rotate_left
  · exact absurd tm1 h0
  rw [te1] at hrow
  have E5 := Lib.hid (E4.out.trans hx)
  have R5 := Lib.hid (R4.out.ex hx)
  have N5 := Lib.hid (N4.out.ex hx)
  obtain ⟨rb, rc, rfl⟩ : ∃ r c, v = .slice (some ⟨r, 0, none⟩) 7 c := by
    rcases row_shape hrow with ⟨-, h2, -⟩ | ⟨r, c, h1, -⟩
    · exact absurd h2 (by decide)
    · exact ⟨r, c, h1⟩
  have hcv := run_convert_bytes_arg (P := Try.prog) w3 25 5 Try.underlying25 Try.underlying5 rb 0 7 rc tb1 rfl (fun i hi => by
    rw [World.ownsRow.cellAt hrow (0 + i) (by show 0 + i < 7 * 1; omega), Nat.zero_add]
    simp [bV, tb1] at hi ⊢
    rcases (by omega : i = 0 ∨ i = 1 ∨ i = 2 ∨ i = 3 ∨ i = 4 ∨ i = 5 ∨ i = 6) with rfl | rfl | rfl | rfl | rfl | rfl | rfl <;> rfl) 9 Try.underlying9
  rw [ts1] at hcv
  clear hrow hx x0 x1 E4 R4 N4
  obtain ⟨gb, ob, a', cap', rfl, -, hcap, hgb, hc, hl, hI⟩ := R5.out.at2 (i := 0) (l := [(0, 0, 0, 0)]) rfl
  have x0 : w3.cell? ⟨pb, 0, none⟩ = some (.int .i64 0) := N5.out.cell 0
  have x1 : w3.cell? ⟨pb, 1, none⟩ = some (.slice (some ⟨gb, ob, none⟩) 1 cap) := N5.out.cell 1
  have hc' : w3.cell? ⟨gb, ob, none⟩ = some (.slice a' 1 cap') := hc
  have hcap1 : 1 ≤ cap := hcap
  clear hc hl hI hcap hgb
  go_wp2_with fail
  refine (may_any (g := 0) R5.out).mono ?_
  rintro e w4 ⟨rfl, hx4⟩
  rw [tm1]
  have E6 := Lib.hid (E5.out.trans hx4)
  clear hcv x0 x1 hc' hx4
  go_wp2_with fail
  refine (may_any (F := []) (g := 0) (fv := .slice none 0 0) (.inl ⟨⟨_, _, rfl⟩, rfl⟩)).mono ?_
  rintro e w5 ⟨rfl, hx5⟩
  rw [tm2]
  have E7 := Lib.hid (E6.out.trans hx5)
  clear hx5
  go_wp2_with fail
  go_ret
  exact ⟨rfl, E7.out⟩

end Go.Proofs.Ytmajnjbjoagihaa
