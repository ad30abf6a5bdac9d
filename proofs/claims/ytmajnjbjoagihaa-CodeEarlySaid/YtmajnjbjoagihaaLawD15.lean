/- CodeDecodes. -/
import Derived.Test.YtmajnjbjoagihaaTold15
import Derived.Test.YtmajnjbjoagihaaRefD15
import Derived.Test.YtmajnjbjoagihaaOpen15
namespace Go.Proofs.Ytmajnjbjoagihaa
open Go.RowKit
set_option linter.unusedVariables false
set_option linter.unusedSimpArgs false

def gD : Except Nat (Int × List (List I4)) → Int
  | .error _ => 0
  | .ok x => x.1
def fD : Except Nat (Int × List (List I4)) → List (List I4)
  | .error _ => []
  | .ok x => x.2
def eD : Except Nat (Int × List (List I4)) → Int
  | .error _ => 6
  | .ok _ => 0
def aD : Except Nat (Int × List (List I4)) → Int
  | .error p => (p : Int)
  | .ok _ => 0
theorem dec_all {w w' : World} {r : Except Nat (Int × List (List I4))} {e : Ending} (h : DecDone w r e w') : ∃ a c, e = .returned (.tuple #[.agg #[.int .i64 (gD r), .slice a (fD r).length c], .int .i64 (eD r), .int .i64 (aD r)]) ∧ RdP w' (.slice a (fD r).length c) (fD r) ∧ Ex w w' := by
  cases r with
  | error p => exact ⟨none, 0, h.1, .inl ⟨⟨_, _, rfl⟩, rfl⟩, h.2⟩
  | ok x =>
    obtain ⟨⟨fv, he, hr⟩, hx⟩ := h
    obtain ⟨a, c, rfl⟩ := hr.val
    exact ⟨a, c, he, hr, hx⟩

theorem instsA_len {g n s : Int} {bs : List Int} : ∀ (c a : Nat) (acc : List I4) (l : List I4) (a' : Nat), instsA g n s bs c a acc = .ok (l, a') → l.length = acc.length + c
  | 0, a, acc, l, a', h => by cases h; rfl
  | c + 1, a, acc, l, a', h => by
    rw [instsA] at h
    cases hi : instD g n s bs a with
    | error p => rw [hi] at h; cases h
    | ok x =>
      rw [hi] at h
      have := instsA_len c _ _ l a' h
      simp at this
      omega
theorem funcsA_len {g n : Int} {bs : List Int} : ∀ (c a : Nat) (acc F : List (List I4)) (a' : Nat), funcsA g n bs c a acc = .ok (F, a') → F.length = acc.length + c ∧ ((∀ l ∈ acc, l.length ≤ 64) → ∀ l ∈ F, l.length ≤ 64)
  | 0, a, acc, F, a', h => by cases h; exact ⟨rfl, fun k => k⟩
  | c + 1, a, acc, F, a', h => by
    rw [funcsA] at h
    split at h
    · cases h
    split at h
    · cases h
    rename_i h1 h2
    cases hi : instsA g n (bs.getD a 0) bs (bs.getD a 0).toNat (a + 1) [] with
    | error p => rw [hi] at h; cases h
    | ok x =>
      obtain ⟨l, a2⟩ := x
      rw [hi] at h
      obtain ⟨k1, k2⟩ := funcsA_len c _ _ F a' h
      have hl := instsA_len _ _ _ _ _ hi
      simp only [List.length_nil, List.length_append, List.length_cons] at k1 hl
      refine ⟨by omega, fun k => k2 (fun m hm => ?_)⟩
      simp only [List.mem_append, List.mem_singleton] at hm
      rcases hm with hm | rfl
      · exact k m hm
      · omega
theorem dec_len (bs : List Int) : (fD (decD bs)).length ≤ 1000 ∧ ∀ l ∈ fD (decD bs), l.length ≤ 1000 := by
  have bad : ∀ p, (fD (.error p)).length ≤ 1000 ∧ ∀ l ∈ fD (.error p), l.length ≤ 1000 := fun p => ⟨by simp [fD], by simp [fD]⟩
  unfold decD
  split
  · exact bad _
  split
  · exact bad _
  split
  · exact bad _
  split
  · exact bad _
  rename_i h1 h2 h3 h4
  cases hf : funcsA (bs.getD 1 0) (bs.getD 0 0) bs (bs.getD 0 0).toNat 2 [] with
  | error p => exact bad _
  | ok x =>
    obtain ⟨F, a⟩ := x
    obtain ⟨k1, k2⟩ := funcsA_len _ _ _ _ _ hf
    unfold finD
    dsimp only
    split
    · exact bad _
    · simp only [List.length_nil] at k1
      exact ⟨by simp only [fD]; omega, fun l hl => by have := k2 (by simp) l hl; omega⟩

set_option maxRecDepth 20000 in
set_option maxHeartbeats 6400000 in
theorem decodes_walk {w : World} {a : Option Addr} {len cap : Nat} (hb : len ≤ 1000 → ∃ bs : List Int, bs.length = len ∧ Bs w (.slice a len cap) bs) :
    Calls Try.prog 4 #[.slice a len cap] w fun e w' => e = .returned (.bool true) ∧ Below w.heap.size w w' := by
  by_cases hl : 1000 < len
  · have hl' : (1000 : Int) < (len : Int) := by omega
    clear hb hl
    go_enter Try.func4, Try.ntmps4
    go_wp2_with fail
    refine (told_any w).mono ?_
    rintro e w' ⟨rfl, hx⟩
    have HX := Lib.hid hx
    clear hx
    go_wp2_with fail
    go_ret
    exact ⟨rfl, HX.out⟩
  · have hl' : (len : Int) ≤ 1000 := by omega
    obtain ⟨bs, hbl, hbs⟩ := hb (by omega)
    have DA := Lib.hid (fun (W : World) (v : Value) (k : Bs W v bs) => (decode_any k).mono (fun e w' h => dec_all h))
    have DB := Lib.hid (fun (W : World) (v : Value) (k : Bs W v bs) => (rdecode_any k).mono (fun e w' h => dec_all h))
    obtain ⟨f1, f2⟩ := dec_len bs
    have SA := Lib.hid (fun (W : World) (g : Int) (fa fb : Value) (h : RdP W fa (fD (decD bs))) (k : RdP W fb (fD (decD bs))) => same_any (g := g) h k f1 f2)
    have HBS := Lib.hid hbs
    clear hb hl hbl hbs f1 f2
    generalize decD bs = r at *
    generalize gD r = g at *
    generalize fD r = F at *
    generalize eD r = ev at *
    generalize aD r = av at *
    go_enter Try.func4, Try.ntmps4
    go_wp2_with fail
    refine (DA.out w _ HBS.out).mono ?_
    rintro e w1 ⟨aa, ca, rfl, hr, hx⟩
    have E1 := Lib.hid hx
    have R1 := Lib.hid hr
    clear hr hx
    go_upto_region 4 with fail
    have e2 := Ex.made w1 (.cells #[.int .i64 g, .slice aa F.length ca] 24)
    have n2 := Box.fresh w1 #[.int .i64 g, .slice aa F.length ca] 24
    have R2 := Lib.hid (R1.out.ex e2)
    have E2 := Lib.hid (E1.out.trans e2)
    obtain ⟨pb, hpb⟩ : ∃ b, w1.heap.size = b := ⟨_, rfl⟩
    rw [hpb] at n2 ⊢
    obtain ⟨W, hW⟩ : ∃ W, W = w1.alloc (.cells #[.int .i64 g, .slice aa F.length ca] 24) := ⟨_, rfl⟩
    rw [← hW] at e2 n2 R2 E2 ⊢
    have N2 := Lib.hid n2
    clear hW hpb e2 n2 R1 E1
    go_wp2_with fail
    refine (DB.out W _ (HBS.out.ex E2.out)).mono ?_
    rintro e w2 ⟨ab, cb, rfl, hr, hx⟩
    have E3 := Lib.hid (E2.out.trans hx)
    have R3 := Lib.hid (R2.out.ex hx)
    have N3 := Lib.hid (N2.out.ex hx)
    have S3 := Lib.hid hr
    clear hr hx E2 R2 N2
    go_upto_region 5 with fail
    have e2 := Ex.made w2 (.cells #[.int .i64 g, .slice ab F.length cb] 24)
    have n2 := Box.fresh w2 #[.int .i64 g, .slice ab F.length cb] 24
    have R4 := Lib.hid (R3.out.ex e2)
    have S4 := Lib.hid (S3.out.ex e2)
    have E4 := Lib.hid (E3.out.trans e2)
    have N4 := Lib.hid (N3.out.ex e2)
    obtain ⟨qb, hqb⟩ : ∃ b, w2.heap.size = b := ⟨_, rfl⟩
    rw [hqb] at n2 ⊢
    obtain ⟨V, hV⟩ : ∃ W, W = w2.alloc (.cells #[.int .i64 g, .slice ab F.length cb] 24) := ⟨_, rfl⟩
    rw [← hV] at e2 n2 R4 S4 E4 N4 ⊢
    have M4 := Lib.hid n2
    clear hV hqb e2 n2 R3 S3 E3 N3
    go_wp2_with fail
    refine (told_any V).mono ?_
    rintro e w3 ⟨rfl, hx⟩
    have E5 := Lib.hid (E4.out.trans hx)
    have R5 := Lib.hid (R4.out.ex hx)
    have S5 := Lib.hid (S4.out.ex hx)
    have n5 := N4.out.ex hx
    have m5 := M4.out.ex hx
    have x0 : w3.cell? ⟨pb, 0, none⟩ = some (.int .i64 g) := n5.cell 0
    have x1 : w3.cell? ⟨pb, 1, none⟩ = some (.slice aa F.length ca) := n5.cell 1
    have y0 : w3.cell? ⟨qb, 0, none⟩ = some (.int .i64 g) := m5.cell 0
    have y1 : w3.cell? ⟨qb, 1, none⟩ = some (.slice ab F.length cb) := m5.cell 1
    clear hx E4 R4 S4 N4 M4 n5 m5
    go_wp2_with fail
    refine (SA.out w3 g _ _ R5.out S5.out).mono ?_
    rintro e w4 ⟨rfl, hx⟩
    have E6 := Lib.hid (E5.out.trans hx)
    clear hx x0 x1 y0 y1
    go_wp2_with fail
    go_ret
    exact ⟨by simp, E6.out⟩

theorem walk_CodeDecodes (a : Option Addr) (len cap : Nat) (zs : List Int) (w : World)
    (h : (a = none ∧ len = 0 ∧ cap = 0 ∧ zs = []) ∨ ∃ x, a = some x ∧ len ≤ cap ∧ cap ≤ maxLen ∧ zs.length = cap ∧ (∀ i, i < zs.length → w.cell? (x.add i) = some (.int .u8 (zs.getD i 0))) ∧ ∀ n ∈ zs, (Lit.int .u8 n).wf = true) :
    Calls Try.prog 4 #[.slice a len cap] w fun e w' => e = .returned (.bool true) ∧ Below w.heap.size w w' :=
  decodes_walk (fun hl => bs_of_row h (by omega))

end Go.Proofs.Ytmajnjbjoagihaa
