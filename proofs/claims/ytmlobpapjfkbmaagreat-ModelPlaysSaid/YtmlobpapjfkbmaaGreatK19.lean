/- Part 19 of what is proved of the program of layer 16: RInts16, RoD16, RoE16, RSame16, ToldZ16. -/
import Derived.Test.YtmlobpapjfkbmaaGreatK4
import Derived.Test.YtmlobpapjfkbmaaGreatK18
import Derived.Test.YtmlobpapjfkbmaaGreatK17
import Derived.Test.YtmlobpapjfkbmaaGreatK13
/- Two lists of numbers that are the same. -/
namespace Go.Proofs.YtmlobpapjfkbmaaGreat.T13
open Go.RowKit
set_option linter.unusedVariables false
set_option maxRecDepth 20000

def RowI (w : World) (v : Value) (l : List Int) : Prop := ∃ a cap, v = .slice a l.length cap ∧ ∀ j, j < l.length → ∃ g off, a = some ⟨g, off, none⟩ ∧ g < w.heap.size ∧ w.cell? ⟨g, off + j, none⟩ = some (.int .i64 (l.getD j 0))
theorem rowI_of {w : World} {B : Nat} {v : Value} {l : List Int} (h : w.ownsRow B 3 1 v l.length (intsZ l)) : RowI w v l := by
  rcases row_shape h with ⟨h1, h2, h3⟩ | ⟨g, cap, rfl, h2, h3, h4, h5⟩
  · exact ⟨none, 0, by rw [h1, h2], fun j hj => by omega⟩
  · refine ⟨some ⟨g, 0, none⟩, cap, rfl, fun j hj => ⟨g, 0, rfl, h3, ?_⟩⟩
    rw [Nat.zero_add, h.cellAt j (by omega)]
    simp [intsZ, hj]
theorem RowI.ex {w w' : World} {v : Value} {l : List Int} (h : RowI w v l) (k : Ex w w') : RowI w' v l := by
  obtain ⟨a, cap, h1, h5⟩ := h
  refine ⟨a, cap, h1, fun j hj => ?_⟩
  obtain ⟨g, off, e, hg, hc⟩ := h5 j hj
  exact ⟨g, off, e, Nat.lt_of_lt_of_le hg k.size, (k.cell (p := ⟨g, off + j, none⟩) hg).trans hc⟩

set_option maxRecDepth 10000 in
set_option maxHeartbeats 1600000 in
theorem rints_any {w : World} {v u : Value} {l : List Int} (hn : l.length ≤ 100000) (h : RowI w v l) (k : RowI w u l) :
    Calls Tryz.prog 9 #[v, u] w fun e w' => e = .returned (.bool true) ∧ Ex w w' := by
  obtain ⟨n, hl⟩ : ∃ n, l.length = n := ⟨_, rfl⟩
  unfold RowI at h k
  rw [hl] at h k hn
  obtain ⟨a, cap, rfl, hc⟩ := h
  obtain ⟨a', cap', rfl, hc'⟩ := k
  have HC := Lib.hid hc
  have HC' := Lib.hid hc'
  clear hc hc' hl
  go_enter Tryz.func9, Tryz.ntmps9
  go_wp2
  go_loopw [5] (fun iv wr => ∃ i : Nat, i ≤ n ∧ iv = .int .i64 i ∧ Ex w wr) (fun iv _ => n - (intOf iv).toNat)
  case atStart => exact ⟨0, by omega, rfl, Ex.refl _⟩
  case round =>
    obtain ⟨i, hi, rfl, hx⟩ := hrel
    have HX := Lib.hid hx
    clear hx
    by_cases hin : i < n
    · obtain ⟨g, off, rfl, g1, g2⟩ := HC.out i hin
      obtain ⟨g', off', rfl, g1', g2'⟩ := HC'.out i hin
      obtain ⟨x, hx⟩ : ∃ x, l.getD i 0 = x := ⟨_, rfl⟩
      rw [hx] at g2 g2'
      have d1 : wr.cell? ⟨g, off + i, none⟩ = some (.int .i64 x) := (HX.out.cell (p := ⟨g, off + i, none⟩) g1).trans g2
      have d2 : wr.cell? ⟨g', off' + i, none⟩ = some (.int .i64 x) := (HX.out.cell (p := ⟨g', off' + i, none⟩) g1').trans g2'
      have i0 : (0 : Int) ≤ (i : Int) := by omega
      have i1 : (i : Int) < (n : Int) := by omega
      clear hx g2 g2'
      go_wp2_with fail
      go_quiet (fail)
      go_wp2_with fail
      go_roundw
      case rel => exact ⟨i + 1, by omega, by go_num, HX.out.trans (Ex.drawn _ _)⟩
      case measure => simp [intOf]; omega
    · obtain rfl : i = n := by omega
      go_wp2_with fail
      go_ret
      exact ⟨rfl, HX.out⟩

end Go.Proofs.YtmlobpapjfkbmaaGreat.T13

/- The document's model beside the program's: what a law needs. -/
namespace Go.Proofs.YtmlobpapjfkbmaaGreat
open Go.RowKit
set_option linter.unusedVariables false
set_option maxRecDepth 20000
set_option linter.unusedSimpArgs false

/-- The document's model xb, in blocks of K. -/
def Ro (B : Nat) (K : Nat → Prop) (w : World) (xb : Nat) (F : Fns) (m : MS) : Prop :=
  ∃ A t, Rf w A t xb F m ∧ New w t ∧ A.pb ≤ B ∧ ∀ i, (t i).1 ≠ 0 → K i
/-- What a call on it may turn. -/
def Rt2 (K : Nat → Prop) (w w' : World) : Prop := Chg K w w'

section
variable {B : Nat} {K : Nat → Prop} {w w' : World} {mb xb : Nat} {F : Fns} {gn n : Nat} {m m' : MS}
theorem Ro.ex (h : Ro B K w xb F m) (x : Ex w w') : Ro B K w' xb F m := by
  obtain ⟨A, t, h1, h2, h3, h4⟩ := h
  exact ⟨A, t, h1.exs x, h2.le x.size, h3, h4⟩
theorem Ro.wide (h : Ro B K w xb F m) {K' : Nat → Prop} (hk : ∀ i, K i → K' i) : Ro B K' w xb F m := by
  obtain ⟨A, t, h1, h2, h3, h4⟩ := h
  exact ⟨A, t, h1, h2, h3, fun i hi => hk i (h4 i hi)⟩
/-- The program's model goes on. -/
theorem Ro.mt (h : Ro B K w xb F m) (t : Mt B K w w') : Ro B K w' xb F m := by
  obtain ⟨A, tg, h1, h2, h3, h4⟩ := h
  refine ⟨A, tg, h1.ex t (fun i hi => .inr ⟨?_, Nat.le_trans h3 hi.1⟩), h2.le t.size, h3, h4⟩
  rcases Nat.eq_zero_or_pos (tg i).1 with e | e
  · exact e
  · exact absurd (h4 i (by omega)) hi.2
/-- The document's model has gone on: the program's is as it was. -/
theorem Mo.doc (h : Mo B K w mb F gn n m) (hr : Ro B K w xb F m) (hk : ∀ A t, Rf w A t xb F m → New w t → A.pb ≤ w.heap.size → SpawnD w A t xb F m' w') :
    ∃ K', (∀ i, K i → K' i) ∧ Mo B K' w' mb F gn n m ∧ Ro B K' w' xb F m' ∧ Chg K w w' := by
  obtain ⟨A, t, h1, h2, h3, h4⟩ := hr
  obtain ⟨A', t', k1, k2, k3, k4, k5⟩ := hk A t h1 h2 (Nat.le_trans h3 h.bs)
  have c : Chg K w w' := k5.weak (fun i _ hi => h4 i hi)
  refine ⟨fun i => K i ∨ (w.heap.size ≤ i ∧ i < w'.heap.size), fun i hi => .inl hi, ?_, ⟨A', t', k1, k2, by rw [k4]; exact h3, fun i hi => ?_⟩, c⟩
  · obtain ⟨⟨A0, t0, q1, q2, q3, q4, q5⟩, p1, p2, p3, p4, p5, p6⟩ := h
    refine ⟨⟨A0, t0, q1.ex c (fun i hi => .inr ⟨q5 i hi, Nat.le_trans q3 (p5 i hi)⟩), q2.le c.size, q3, q4, fun i hi => ?_⟩, p1, p2, Nat.le_trans p3 c.size, fun i hi => ?_, fun i hi => ?_, p6⟩
    · rcases hi with h | h
      · exact q5 i h
      · exact q2 i h.1
    · rcases hi with h | h
      · exact Nat.lt_of_lt_of_le (p4 i h) c.size
      · exact h.2
    · rcases hi with h | h
      · exact p5 i h
      · exact Nat.le_trans p3 h.1
  · rcases Nat.lt_or_ge i w.heap.size with hl | hl
    · rw [k3 i hl] at hi; exact .inl (h4 i hi)
    · rcases Nat.lt_or_ge i w'.heap.size with hl2 | hl2
      · exact .inr ⟨hl, hl2⟩
      · exact absurd (k2 i hl2) hi
end

end Go.Proofs.YtmlobpapjfkbmaaGreat

/- Both models' Do and Tick, told alike. -/
namespace Go.Proofs.YtmlobpapjfkbmaaGreat
open Go.RowKit
set_option linter.unusedVariables false
set_option maxRecDepth 20000
set_option linter.unusedSimpArgs false

section
variable {B : Nat} {K : Nat → Prop} {w w' : World} {mb xb : Nat} {F : Fns} {gn n : Nat} {m m' m0 : MS}
/-- The document's model has gone on: the program's, wherever it is, is as it was. -/
theorem Mo.doc2 (h : Mo B K w mb F gn n m0) {A : RA} {t : Nat → Tg} (h3 : A.pb ≤ B) (h4 : ∀ i, (t i).1 ≠ 0 → K i) (s : SpawnD w A t xb F m' w') :
    ∃ K', (∀ i, K i → K' i) ∧ Mo B K' w' mb F gn n m0 ∧ Ro B K' w' xb F m' ∧ Chg K w w' := by
  obtain ⟨A', t', k1, k2, k3, k4, k5⟩ := s
  have c : Chg K w w' := k5.weak (fun i _ hi => h4 i hi)
  refine ⟨fun i => K i ∨ (w.heap.size ≤ i ∧ i < w'.heap.size), fun i hi => .inl hi, ?_, ⟨A', t', k1, k2, by rw [k4]; exact h3, fun i hi => ?_⟩, c⟩
  · obtain ⟨⟨A0, t0, q1, q2, q3, q4, q5⟩, p1, p2, p3, p4, p5, p6⟩ := h
    refine ⟨⟨A0, t0, q1.ex c (fun i hi => .inr ⟨q5 i hi, Nat.le_trans q3 (p5 i hi)⟩), q2.le c.size, q3, q4, fun i hi => ?_⟩, p1, p2, Nat.le_trans p3 c.size, fun i hi => ?_, fun i hi => ?_, p6⟩
    · rcases hi with h | h
      · exact q5 i h
      · exact q2 i h.1
    · rcases hi with h | h
      · exact Nat.lt_of_lt_of_le (p4 i h) c.size
      · exact h.2
    · rcases hi with h | h
      · exact p5 i h
      · exact Nat.le_trans p3 h.1
  · rcases Nat.lt_or_ge i w.heap.size with hl | hl
    · rw [k3 i hl] at hi; exact .inl (h4 i hi)
    · rcases Nat.lt_or_ge i w'.heap.size with hl2 | hl2
      · exact .inr ⟨hl, hl2⟩
      · exact absurd (k2 i hl2) hi
/-- What the document's Do or Tick leaves, beside the program's model at m0. -/
def DocR (B : Nat) (K : Nat → Prop) (w : World) (mb xb : Nat) (F : Fns) (gn n : Nat) (m0 m' : MS) (w' : World) : Prop :=
  ∃ K', (∀ i, K i → K' i) ∧ Mo B K' w' mb F gn n m0 ∧ Ro B K' w' xb F m' ∧ Chg K w w'
theorem in2_step (I : Inv F gn n m) (hm : C15.mayI gn F = 0) (h2 : In2 m) {g : Nat} (hg : g < m.gs.length) (h1 : m.st.getD g 0 = 1) : In2 (stepM F m g) := by
  obtain ⟨op, a, b, c, hi, f, hz⟩ := inst_fit hm (I.fn g hg)
  unfold stepM; rw [hi]; simp only [Int.toNat_natCast]
  exact in2_op I h2 hg h1 f
/-- Both models' Do, of anybody. -/
theorem both_do (h : Mo B K w mb F gn n m) (hr : Ro B K w xb F m) (h2 : In2 m) (hn : n ≤ 199) (g : Int) :
    ∃ (g' f pc op v : Int) (bad : Bool) (err : Int) (m' : MS) (n' : Nat), n' ≤ n + 1 ∧ m'.clock = m.clock ∧ In2 m' ∧
      (Calls Tryz.prog 12 #[.pointer (some ⟨mb, 0, none⟩), .int .i64 g] w fun e w' => e = .returned (.tuple #[.agg #[.int .i64 g', .int .i64 f, .int .i64 pc, .int .i64 op, .int .i64 v, .bool bad], .int .i64 err]) ∧ Mo B K w' mb F gn n' m' ∧ Mt B K w w') ∧
      ∀ (K' : Nat → Prop) (W : World) (m0 : MS) (n0 : Nat), Mo B K' W mb F gn n0 m0 → Ro B K' W xb F m →
        Calls Tryz.prog 13 #[.pointer (some ⟨xb, 0, none⟩), .int .i64 g] W fun e w' => e = .returned (.tuple #[.agg #[.int .i64 g', .int .i64 f, .int .i64 pc, .int .i64 op, .int .i64 v, .bool bad], .int .i64 err]) ∧ DocR B K' W mb xb F gn n0 m0 m' w' := by
  have I := h.inv
  have hm := h.may
  have hc := h.cl
  by_cases hin : 0 ≤ g ∧ g < (m.gs.length : Int)
  · obtain ⟨k, rfl⟩ : ∃ k : Nat, g = (k : Int) := ⟨g.toNat, by omega⟩
    have hk : k < m.gs.length := by omega
    by_cases h1 : m.st.getD k 0 = 1
    · refine ⟨_, _, _, _, _, _, 0, stepM F m k, n + 1, Nat.le_refl _, stepM_clock .., in2_step I hm h2 hk h1, mo_do h (by omega) (by have := I.sl; omega) hk h1, fun K' W m0 n0 hM hR => ?_⟩
      obtain ⟨A, t, r1, r2, r3, r4⟩ := hR
      refine (rdo_go r1 r2 (Nat.le_trans r3 hM.bs) hm I (by omega) (by omega) h2.up hk h1).mono ?_
      rintro e w' ⟨rfl, s⟩
      exact ⟨rfl, hM.doc2 r3 r4 s⟩
    · refine ⟨0, 0, 0, 0, 0, false, 5, m, n, Nat.le_succ _, rfl, h2, (mo_cant h hk h1).mono (fun e w' ⟨q1, q2⟩ => ⟨q1, h.ex q2, Mt.ex q2⟩), fun K' W m0 n0 hM hR => ?_⟩
      obtain ⟨A, t, r1, -⟩ := id hR
      refine (rdo_cant r1 hk h1).mono ?_
      rintro e w' ⟨rfl, x⟩
      exact ⟨rfl, K', fun _ h => h, hM.ex x, hR.ex x, x.chg _⟩
  · refine ⟨0, 0, 0, 0, 0, false, 4, m, n, Nat.le_succ _, rfl, h2, (mo_nobody h (by omega)).mono (fun e w' ⟨q1, q2⟩ => ⟨q1, h.ex q2, Mt.ex q2⟩), fun K' W m0 n0 hM hR => ?_⟩
    obtain ⟨A, t, r1, -⟩ := id hR
    refine (rdo_nobody r1 (by omega)).mono ?_
    rintro e w' ⟨rfl, x⟩
    exact ⟨rfl, K', fun _ h => h, hM.ex x, hR.ex x, x.chg _⟩
/-- The document's Tick, beside the program's model. -/
theorem doc_tick (I : Inv F gn n m) (h2 : In2 m) (hn : n ≤ 200) (hc : m.clock ≤ 1000000) (k : Int) (j : Nat) (hk : k ≤ 1000000000) (hj : k.toNat = j) {W : World} {n0 : Nat} (hM : Mo B K W mb F gn n0 m0) (hR : Ro B K W xb F m) :
    Calls Tryz.prog 11 #[.pointer (some ⟨xb, 0, none⟩), .int .i64 k] W fun e w' => (∃ u, e = .returned u ∧ w'.ownsRow W.heap.size 3 1 u (wokeM m j).length (S12.ints (wokeM m j))) ∧ DocR B K W mb xb F gn n0 m0 (tickM m j) w' := by
  obtain ⟨A, t, r1, r2, r3, r4⟩ := hR
  refine (rtick_any r1 r2 I hn h2.up (by omega) k j hk hj).mono ?_
  rintro e w' ⟨hu, s⟩
  exact ⟨hu, hM.doc2 r3 r4 s⟩
end

end Go.Proofs.YtmlobpapjfkbmaaGreat

/- The law's same: the program's model and the document's stand alike. -/
namespace Go.Proofs.YtmlobpapjfkbmaaGreat
open Go.RowKit
set_option linter.unusedVariables false
set_option maxRecDepth 20000
set_option linter.unusedSimpArgs false

theorem rowZ {w : World} {v : Value} {l : List Nat} (h : Rn w v l) : T13.RowI w v (l.map (fun n : Nat => (n : Int))) := by
  obtain ⟨a, cap, rfl, -, -, h3⟩ := h
  refine ⟨a, cap, by rw [List.length_map], fun j hj => ?_⟩
  rw [List.length_map] at hj
  obtain ⟨g, off, e, hg, hc⟩ := h3 j hj
  refine ⟨g, off, e, hg, ?_⟩
  rw [hc]
  simp [List.getD_eq_getElem?_getD, hj]
theorem ints_same {w : World} {v u : Value} {l : List Nat} (hn : l.length ≤ 100000) (h : Rn w v l) (k : Rn w u l) :
    Calls Tryz.prog 9 #[v, u] w fun e w' => e = .returned (.bool true) ∧ Ex w w' := T13.rints_any (by rw [List.length_map]; exact hn) (rowZ h) (rowZ k)
theorem Rn.nil0 (w : World) : Rn w (.slice none 0 0) [] := ⟨none, 0, rfl, fun _ => rfl, Nat.le_refl _, fun j hj => by cases hj⟩

/-- A goroutine's next instruction, and whether it lives. -/
def nextO (F : Fns) (m : MS) (g : Nat) : C15.I4 := if m.st.getD g 0 = 5 then (0, 0, 0, 0) else instAt F (m.at g)
def nextB (m : MS) (g : Nat) : Bool := if m.st.getD g 0 = 5 then false else true
/-- An object's slots; nothing: there is none. -/
def slotsO (m : MS) (id : Nat) : List Nat := if 1 ≤ id ∧ id < m.slots.length then m.slots.getD id [] else []
theorem staI_is {F : Fns} {gn n : Nat} {m : MS} (I : Inv F gn n m) {g : Nat} (hg : g < m.gs.length) : staI m g = m.st.getD g 0 := sta_is I g

section
variable {w : World} {A : Adr} {R : RA} {t tr : Nat → Tg} {mb xb : Nat} {F : Fns} {gn n : Nat} {m : MS}
theorem mnext_any (h : Md w A t mb F m) (I : Inv F gn n m) (hm : C15.mayI gn F = 0) {g : Nat} (hg : g < m.gs.length) :
    Calls Tryz.prog 28 #[.pointer (some ⟨mb, 0, none⟩), .int .i64 (g : Nat)] w fun e w' => e = .returned (.tuple #[instV (nextO F m g), .bool (nextB m g)]) ∧ Ex w w' := by
  have P := may_pf hm
  unfold nextO nextB
  by_cases h5 : m.st.getD g 0 = 5
  · rw [if_pos h5, if_pos h5]
    exact next_dead h (by rw [staI_is I hg]; exact h5)
  · rw [if_neg h5, if_neg h5]
    have := I.s.sts g (by rw [I.st]; exact hg)
    exact next_ok h I.g1k hg (by rw [staI_is I hg]; omega) (by rw [staI_is I hg]; exact h5) (I.fn g hg) P.len P.each (by have := (I.pc g hg).1; omega)
theorem dnext_any (h : Rf w R tr xb F m) (I : Inv F gn n m) (hm : C15.mayI gn F = 0) {g : Nat} (hg : g < m.gs.length) :
    Calls Tryz.prog 32 #[.pointer (some ⟨xb, 0, none⟩), .int .i64 (g : Nat)] w fun e w' => e = .returned (.tuple #[instV (nextO F m g), .bool (nextB m g)]) ∧ Ex w w' := by
  have P := may_pf hm
  unfold nextO nextB
  by_cases h5 : m.st.getD g 0 = 5
  · rw [if_pos h5, if_pos h5]
    exact rnext_dead h hg h5
  · rw [if_neg h5, if_neg h5]
    exact rnext_ok h I.g1k hg h5 (I.fn g hg) P.len P.each (by have := (I.pc g hg).1; omega)
theorem mslots_any (h : Md w A t mb F m) (I : Inv F gn n m) (hn : n ≤ 90000) (id : Nat) :
    Calls Tryz.prog 41 #[.pointer (some ⟨mb, 0, none⟩), .int .i64 (id : Nat)] w fun e w' => ∃ u, e = .returned u ∧ Rn w' u (slotsO m id) ∧ Ex w w' := by
  unfold slotsO
  by_cases hi : 1 ≤ id ∧ id < m.slots.length
  · rw [if_pos hi]
    refine (slots_in h (by have := I.sn; omega) (fun i => by have := I.on i; omega) id hi.1 hi.2).mono ?_
    rintro e w' ⟨u, rfl, hu, hx⟩
    exact ⟨u, rfl, Rn.of hu, hx⟩
  · rw [if_neg hi]
    refine (slots_out h (id : Nat) (by omega)).mono ?_
    rintro e w' ⟨rfl, rfl⟩
    exact ⟨_, rfl, Rn.nil0 _, Ex.refl _⟩
theorem dslots_any (h : Rf w R tr xb F m) (I : Inv F gn n m) (hn : n ≤ 90000) (id : Nat) :
    Calls Tryz.prog 42 #[.pointer (some ⟨xb, 0, none⟩), .int .i64 (id : Nat)] w fun e w' => ∃ u, e = .returned u ∧ Rn w' u (slotsO m id) ∧ Ex w w' := by
  unfold slotsO
  by_cases hi : 1 ≤ id ∧ id < m.slots.length
  · rw [if_pos hi]
    refine (rslots_in h (by have := I.sn; omega) id hi.1 hi.2).mono ?_
    rintro e w' ⟨rfl, rfl⟩
    exact ⟨_, rfl, Rn.of (h.slot id hi.1 hi.2).row, Ex.refl _⟩
  · rw [if_neg hi]
    refine (rslots_out h (id : Nat) (by omega) I.s0).mono ?_
    rintro e w' ⟨rfl, rfl⟩
    exact ⟨_, rfl, Rn.nil0 _, Ex.refl _⟩
end

set_option maxRecDepth 20000 in
set_option maxHeartbeats 51200000 in
theorem rsame_any {B : Nat} {K : Nat → Prop} {w : World} {mb xb : Nat} {F : Fns} {gn n : Nat} {m : MS} (h : Mo B K w mb F gn n m) (hr : Ro B K w xb F m) (h2 : In2 m) (hn : n ≤ 200) :
    Calls Tryz.prog 14 #[.pointer (some ⟨mb, 0, none⟩), .pointer (some ⟨xb, 0, none⟩)] w fun e w' => e = .returned (.bool true) ∧ Ex w w' := by
  obtain ⟨A0, t0, q1, -⟩ := h.md
  obtain ⟨A, t, hR, -⟩ := hr
  have I := h.inv
  have hm := h.may
  have W := I.wf2 (may_gn hm) (by omega) (by have := I.sl; omega) (by have := h.cl; omega)
  have RN : Ran m := ⟨I.glv, I.slv, by have := I.tot; omega⟩
  have KGs := Lib.hid (fun W1 (x : Ex w W1) => gs_any (q1.exs x))
  have KCl := Lib.hid (fun W1 (x : Ex w W1) => clock_any (q1.exs x))
  have KId := Lib.hid (fun W1 (x : Ex w W1) => ids_any (q1.exs x) I.s0 (by have := I.sn; omega))
  have KSt := Lib.hid (fun W1 (x : Ex w W1) => stuck_any (q1.exs x) (fun i => by have := I.wt i; omega))
  have KSd := Lib.hid (fun W1 (x : Ex w W1) => rstuck_any (hR.exs x) I.g1k (by have := I.sl; omega))
  rw [stuck_same I h2] at KSd
  have KGl := Lib.hid (fun W1 (x : Ex w W1) => globals_any (q1.exs x) (by have := I.gl; have := may_gn hm; omega))
  have KNm := Lib.hid (fun W1 (x : Ex w W1) (g : Nat) (hg : g < m.gs.length) => mnext_any (q1.exs x) I hm hg)
  have KNd := Lib.hid (fun W1 (x : Ex w W1) (g : Nat) (hg : g < m.gs.length) => dnext_any (hR.exs x) I hm hg)
  have KSm := Lib.hid (fun W1 (x : Ex w W1) (g : Nat) => state_any (q1.exs x) g (m.st.getD g 0) (sta_is I g))
  have KSk := Lib.hid (fun W1 (x : Ex w W1) (g : Nat) (hg : g < m.gs.length) => stack_in (q1.exs x) hg (I.stk g hg).1 I.g1k)
  have KOm := Lib.hid (fun W1 (x : Ex w W1) (id : Nat) => mslots_any (q1.exs x) I (by omega) id)
  have KOd := Lib.hid (fun W1 (x : Ex w W1) (id : Nat) => dslots_any (hR.exs x) I (by omega) id)
  have KRm := Lib.hid (fun W1 (x : Ex w W1) => reach_any (q1.exs x) W RN I.g1k)
  have KRd := Lib.hid (fun W1 (x : Ex w W1) => rreach_any (hR.exs x) W RN I.g1k)
  have HRL : Hid ((rchL m).length ≤ 100000) := Lib.hid (by
    classical
    unfold rchL
    have := List.length_filter_le (fun i => decide (Rch m i)) (List.range m.slots.length)
    have := I.sn
    simp at *
    omega)
  have HGL : Hid (m.globals.length ≤ 100000) := Lib.hid (by have := W.gl; omega)
  have HSL : Hid (∀ id, (slotsO m id).length ≤ 100000) := Lib.hid (fun id => by
    unfold slotsO
    split
    · have := I.on id; omega
    · simp)
  have HSKL : Hid (∀ g, g < m.gs.length → (m.at g).stack.length = 16) := Lib.hid (fun g hg => (I.stk g hg).1)
  have HRR := Lib.hid hR
  obtain ⟨va, vc, hgv⟩ := T13.row_val hR.grow.row
  obtain ⟨la, lc, hlv⟩ := T13.row_val hR.slr.row
  have xlt := hR.box.box.lt
  obtain ⟨gk, hgk⟩ : ∃ k, m.gs.length = k := ⟨_, rfl⟩
  obtain ⟨sn, hsn⟩ : ∃ k, m.slots.length = k := ⟨_, rfl⟩
  obtain ⟨cl, hcl⟩ : ∃ k, m.clock = k := ⟨_, rfl⟩
  obtain ⟨st, hst⟩ : ∃ k, stuckM m = k := ⟨_, rfl⟩
  have CX : Hid (∀ W1, Ex w W1 → W1.cell? ⟨xb, 2, none⟩ = some (.slice va gk vc) ∧ W1.cell? ⟨xb, 38, none⟩ = some (.int .i64 (cl : Nat)) ∧ W1.cell? ⟨xb, 4, none⟩ = some (.slice la (sn - 1) lc) ∧ W1.cell? ⟨xb, 3, none⟩ = some A.Gv) := Lib.hid (fun W1 x => by
    have b := hR.box.box.ex x
    have e2 : W1.cell? ⟨xb, 2, none⟩ = some A.gv := b.cell 2
    have e38 : W1.cell? ⟨xb, 38, none⟩ = some (.int .i64 (m.clock : Nat)) := b.cell 38
    have e4 : W1.cell? ⟨xb, 4, none⟩ = some A.lv := b.cell 4
    have e3 : W1.cell? ⟨xb, 3, none⟩ = some A.Gv := b.cell 3
    rw [hgv, hgk] at e2
    rw [hcl] at e38
    rw [hlv, hsn] at e4
    exact ⟨e2, e38, e4, e3⟩)
  have HGV : Hid (∀ W1, Ex w W1 → Rn W1 A.Gv m.globals) := Lib.hid (fun W1 x => Rn.of (hR.exs x).glob.row)
  have hgk1 : gk ≤ 1024 := hgk ▸ I.g1k
  have hsn1 : sn ≤ 100000 := by have := I.sn; omega
  have hsn0 : 1 ≤ sn := by have := I.s0; omega
  rw [hgk] at KGs
  rw [hcl] at KCl
  rw [hsn] at KId
  rw [hst] at KSt KSd
  have HGK := Lib.hid hgk
  have HSN := Lib.hid hsn
  obtain ⟨Gv, hGv⟩ : ∃ v, A.Gv = v := ⟨_, rfl⟩
  rw [hGv] at CX HGV
  clear h h2 q1 hR I hm W RN hgv hlv hgk hsn hcl hst hGv
  obtain ⟨sp, hsp⟩ : ∃ k, sn - 1 = k := ⟨_, rfl⟩
  rw [hsp] at CX KId
  have es : IntKind.i64.wrap ((sp : Int) + 1) = (sn : Int) := by rw [IntKind.wrap_i64]; omega
  clear hsp
  go_enter Tryz.func14, Tryz.ntmps14
  go_upto_region 1 with fail
  refine wp_region_last (S := fun w' => Ex w w') 43 44 (by kernel_rfl) (by kernel_rfl) (by kernel_rfl) (ex_drw w) (fun hHeld => ?_)
  generalize w.drew = Y0 at *
  refine heldL_take (i := 0) (v := ?_) rfl (by kernel_rfl) (by kernel_rfl) (by kernel_rfl) (by kernel_rfl) (fun _ _ _ h => h) (Or.inl ⟨by kernel_rfl, ?_⟩) (by assumption) ?_
  rotate_left
  · intro w hSw; (try dsimp only at hSw); have d1 := (CX.out w hSw).1; have d2 := (CX.out w hSw).2.1; have d3 := (CX.out w hSw).2.2.1; have d4 := (CX.out w hSw).2.2.2; go_simp; try with_reducible rfl
  try simp only [Act.put, List.setIfInBounds_toArray, List.set_cons_zero, List.set_cons_succ]
  refine heldL_take (i := 2) (v := ?_) rfl (by kernel_rfl) (by kernel_rfl) (by kernel_rfl) (by kernel_rfl) (fun _ _ _ h => h) (Or.inl ⟨by kernel_rfl, ?_⟩) (by assumption) ?_
  rotate_left
  · intro w hSw; (try dsimp only at hSw); have d1 := (CX.out w hSw).1; have d2 := (CX.out w hSw).2.1; have d3 := (CX.out w hSw).2.2.1; have d4 := (CX.out w hSw).2.2.2; go_simp; try with_reducible rfl
  try simp only [Act.put, List.setIfInBounds_toArray, List.set_cons_zero, List.set_cons_succ]
  refine heldL_take (i := 3) (v := ?_) rfl (by kernel_rfl) (by kernel_rfl) (by kernel_rfl) (by kernel_rfl) (fun _ _ _ h => h) (Or.inl ⟨by kernel_rfl, ?_⟩) (by assumption) ?_
  rotate_left
  · intro w hSw; (try dsimp only at hSw); have d1 := (CX.out w hSw).1; have d2 := (CX.out w hSw).2.1; have d3 := (CX.out w hSw).2.2.1; have d4 := (CX.out w hSw).2.2.2; go_simp; try with_reducible rfl
  try simp only [Act.put, List.setIfInBounds_toArray, List.set_cons_zero, List.set_cons_succ]
  refine heldL_take (i := 4) (v := ?_) rfl (by kernel_rfl) (by kernel_rfl) (by kernel_rfl) (by kernel_rfl) (fun _ _ _ h => h) (Or.inl ⟨by kernel_rfl, ?_⟩) (by assumption) ?_
  rotate_left
  · intro w hSw; (try dsimp only at hSw); have d1 := (CX.out w hSw).1; have d2 := (CX.out w hSw).2.1; have d3 := (CX.out w hSw).2.2.1; have d4 := (CX.out w hSw).2.2.2; go_simp; try with_reducible rfl
  try simp only [Act.put, List.setIfInBounds_toArray, List.set_cons_zero, List.set_cons_succ]
  refine heldL_take (i := 5) (v := ?_) rfl (by kernel_rfl) (by kernel_rfl) (by kernel_rfl) (by kernel_rfl) (fun _ _ _ h => h) (Or.inl ⟨by kernel_rfl, ?_⟩) (by assumption) ?_
  rotate_left
  · intro w hSw; (try dsimp only at hSw); have d1 := (CX.out w hSw).1; have d2 := (CX.out w hSw).2.1; have d3 := (CX.out w hSw).2.2.1; have d4 := (CX.out w hSw).2.2.2; go_simp; try with_reducible rfl
  try simp only [Act.put, List.setIfInBounds_toArray, List.set_cons_zero, List.set_cons_succ]
  refine heldL_take (i := 6) (v := ?_) rfl (by kernel_rfl) (by kernel_rfl) (by kernel_rfl) (by kernel_rfl) (fun _ _ _ h => h) (Or.inl ⟨by kernel_rfl, ?_⟩) (by assumption) ?_
  rotate_left
  · intro w hSw; (try dsimp only at hSw); have d1 := (CX.out w hSw).1; have d2 := (CX.out w hSw).2.1; have d3 := (CX.out w hSw).2.2.1; have d4 := (CX.out w hSw).2.2.2; go_simp; try with_reducible rfl
  try simp only [Act.put, List.setIfInBounds_toArray, List.set_cons_zero, List.set_cons_succ]
  refine heldL_ready (rs := [1]) (by kernel_rfl) (by simp) ?_
  refine AllL.cons rfl (fun K hK => ?_) AllL.nil
  go_simp
  go_at_call 35
  refine (KGs.out _ hHeld).mono ?_
  rintro e w1 ⟨rfl, rfl⟩
  refine hK.out _ _ (fun _ => hHeld) (fun hHeld => ?_)
  replace hHeld := hHeld (by decide)
  clear hK K
  try simp only [Act.put, List.setIfInBounds_toArray, List.set_cons_zero, List.set_cons_succ]
  refine heldL_take (i := 7) (v := ?_) rfl (by kernel_rfl) (by kernel_rfl) (by kernel_rfl) (by kernel_rfl) (fun _ _ _ h => h) (Or.inl ⟨by kernel_rfl, ?_⟩) (by assumption) ?_
  rotate_left
  · intro w hSw; (try dsimp only at hSw); have d1 := (CX.out w hSw).1; have d2 := (CX.out w hSw).2.1; have d3 := (CX.out w hSw).2.2.1; have d4 := (CX.out w hSw).2.2.2; go_simp; try with_reducible rfl
  try simp only [Act.put, List.setIfInBounds_toArray, List.set_cons_zero, List.set_cons_succ]
  refine heldL_take (i := 8) (v := ?_) rfl (by kernel_rfl) (by kernel_rfl) (by kernel_rfl) (by kernel_rfl) (fun _ _ _ h => h) (Or.inl ⟨by kernel_rfl, ?_⟩) (by assumption) ?_
  rotate_left
  · intro w hSw; (try dsimp only at hSw); have d1 := (CX.out w hSw).1; have d2 := (CX.out w hSw).2.1; have d3 := (CX.out w hSw).2.2.1; have d4 := (CX.out w hSw).2.2.2; go_simp; try with_reducible rfl
  try simp only [Act.put, List.setIfInBounds_toArray, List.set_cons_zero, List.set_cons_succ]
  refine heldL_take (i := 9) (v := ?_) rfl (by kernel_rfl) (by kernel_rfl) (by kernel_rfl) (by kernel_rfl) (fun _ _ _ h => h) (Or.inl ⟨by kernel_rfl, ?_⟩) (by assumption) ?_
  rotate_left
  · intro w hSw; (try dsimp only at hSw); have d1 := (CX.out w hSw).1; have d2 := (CX.out w hSw).2.1; have d3 := (CX.out w hSw).2.2.1; have d4 := (CX.out w hSw).2.2.2; go_simp; try with_reducible rfl
  try simp only [Act.put, List.setIfInBounds_toArray, List.set_cons_zero, List.set_cons_succ]
  refine heldL_take (i := 11) (v := ?_) rfl (by kernel_rfl) (by kernel_rfl) (by kernel_rfl) (by kernel_rfl) (fun _ _ _ h => h) (Or.inl ⟨by kernel_rfl, ?_⟩) (by assumption) ?_
  rotate_left
  · intro w hSw; (try dsimp only at hSw); have d1 := (CX.out w hSw).1; have d2 := (CX.out w hSw).2.1; have d3 := (CX.out w hSw).2.2.1; have d4 := (CX.out w hSw).2.2.2; go_simp; try with_reducible rfl
  try simp only [Act.put, List.setIfInBounds_toArray, List.set_cons_zero, List.set_cons_succ]
  refine heldL_take (i := 12) (v := ?_) rfl (by kernel_rfl) (by kernel_rfl) (by kernel_rfl) (by kernel_rfl) (fun _ _ _ h => h) (Or.inl ⟨by kernel_rfl, ?_⟩) (by assumption) ?_
  rotate_left
  · intro w hSw; (try dsimp only at hSw); have d1 := (CX.out w hSw).1; have d2 := (CX.out w hSw).2.1; have d3 := (CX.out w hSw).2.2.1; have d4 := (CX.out w hSw).2.2.2; go_simp; try with_reducible rfl
  try simp only [Act.put, List.setIfInBounds_toArray, List.set_cons_zero, List.set_cons_succ]
  refine heldL_take (i := 13) (v := ?_) rfl (by kernel_rfl) (by kernel_rfl) (by kernel_rfl) (by kernel_rfl) (fun _ _ _ h => h) (Or.inl ⟨by kernel_rfl, ?_⟩) (by assumption) ?_
  rotate_left
  · intro w hSw; (try dsimp only at hSw); have d1 := (CX.out w hSw).1; have d2 := (CX.out w hSw).2.1; have d3 := (CX.out w hSw).2.2.1; have d4 := (CX.out w hSw).2.2.2; go_simp; try with_reducible rfl
  try simp only [Act.put, List.setIfInBounds_toArray, List.set_cons_zero, List.set_cons_succ]
  refine heldL_take (i := 14) (v := ?_) rfl (by kernel_rfl) (by kernel_rfl) (by kernel_rfl) (by kernel_rfl) (fun _ _ _ h => h) (Or.inl ⟨by kernel_rfl, ?_⟩) (by assumption) ?_
  rotate_left
  · intro w hSw; (try dsimp only at hSw); have d1 := (CX.out w hSw).1; have d2 := (CX.out w hSw).2.1; have d3 := (CX.out w hSw).2.2.1; have d4 := (CX.out w hSw).2.2.2; go_simp; try with_reducible rfl
  try simp only [Act.put, List.setIfInBounds_toArray, List.set_cons_zero, List.set_cons_succ]
  refine heldL_ready (rs := [10]) (by kernel_rfl) (by simp) ?_
  refine AllL.cons rfl (fun K hK => ?_) AllL.nil
  go_simp
  go_at_call 36
  refine (KCl.out _ hHeld).mono ?_
  rintro e w1 ⟨rfl, rfl⟩
  refine hK.out _ _ (fun _ => hHeld) (fun hHeld => ?_)
  replace hHeld := hHeld (by decide)
  clear hK K
  try simp only [Act.put, List.setIfInBounds_toArray, List.set_cons_zero, List.set_cons_succ]
  refine heldL_take (i := 15) (v := ?_) rfl (by kernel_rfl) (by kernel_rfl) (by kernel_rfl) (by kernel_rfl) (fun _ _ _ h => h) (Or.inl ⟨by kernel_rfl, ?_⟩) (by assumption) ?_
  rotate_left
  · intro w hSw; (try dsimp only at hSw); have d1 := (CX.out w hSw).1; have d2 := (CX.out w hSw).2.1; have d3 := (CX.out w hSw).2.2.1; have d4 := (CX.out w hSw).2.2.2; go_simp; try with_reducible rfl
  try simp only [Act.put, List.setIfInBounds_toArray, List.set_cons_zero, List.set_cons_succ]
  refine heldL_take (i := 16) (v := ?_) rfl (by kernel_rfl) (by kernel_rfl) (by kernel_rfl) (by kernel_rfl) (fun _ _ _ h => h) (Or.inl ⟨by kernel_rfl, ?_⟩) (by assumption) ?_
  rotate_left
  · intro w hSw; (try dsimp only at hSw); have d1 := (CX.out w hSw).1; have d2 := (CX.out w hSw).2.1; have d3 := (CX.out w hSw).2.2.1; have d4 := (CX.out w hSw).2.2.2; go_simp; try with_reducible rfl
  try simp only [Act.put, List.setIfInBounds_toArray, List.set_cons_zero, List.set_cons_succ]
  refine heldL_take (i := 17) (v := ?_) rfl (by kernel_rfl) (by kernel_rfl) (by kernel_rfl) (by kernel_rfl) (fun _ _ _ h => h) (Or.inl ⟨by kernel_rfl, ?_⟩) (by assumption) ?_
  rotate_left
  · intro w hSw; (try dsimp only at hSw); have d1 := (CX.out w hSw).1; have d2 := (CX.out w hSw).2.1; have d3 := (CX.out w hSw).2.2.1; have d4 := (CX.out w hSw).2.2.2; go_simp; try with_reducible rfl
  try simp only [Act.put, List.setIfInBounds_toArray, List.set_cons_zero, List.set_cons_succ]
  refine heldL_take (i := 18) (v := ?_) rfl (by kernel_rfl) (by kernel_rfl) (by kernel_rfl) (by kernel_rfl) (fun _ _ _ h => h) (Or.inl ⟨by kernel_rfl, ?_⟩) (by assumption) ?_
  rotate_left
  · intro w hSw; (try dsimp only at hSw); have d1 := (CX.out w hSw).1; have d2 := (CX.out w hSw).2.1; have d3 := (CX.out w hSw).2.2.1; have d4 := (CX.out w hSw).2.2.2; go_simp; try with_reducible rfl
  try simp only [Act.put, List.setIfInBounds_toArray, List.set_cons_zero, List.set_cons_succ]
  refine heldL_take (i := 20) (v := ?_) rfl (by kernel_rfl) (by kernel_rfl) (by kernel_rfl) (by kernel_rfl) (fun _ _ _ h => h) (Or.inl ⟨by kernel_rfl, ?_⟩) (by assumption) ?_
  rotate_left
  · intro w hSw; (try dsimp only at hSw); have d1 := (CX.out w hSw).1; have d2 := (CX.out w hSw).2.1; have d3 := (CX.out w hSw).2.2.1; have d4 := (CX.out w hSw).2.2.2; go_simp; try with_reducible rfl
  try simp only [Act.put, List.setIfInBounds_toArray, List.set_cons_zero, List.set_cons_succ]
  refine heldL_take (i := 21) (v := ?_) rfl (by kernel_rfl) (by kernel_rfl) (by kernel_rfl) (by kernel_rfl) (fun _ _ _ h => h) (Or.inl ⟨by kernel_rfl, ?_⟩) (by assumption) ?_
  rotate_left
  · intro w hSw; (try dsimp only at hSw); have d1 := (CX.out w hSw).1; have d2 := (CX.out w hSw).2.1; have d3 := (CX.out w hSw).2.2.1; have d4 := (CX.out w hSw).2.2.2; go_simp; try with_reducible rfl
  try simp only [Act.put, List.setIfInBounds_toArray, List.set_cons_zero, List.set_cons_succ]
  refine heldL_take (i := 22) (v := ?_) rfl (by kernel_rfl) (by kernel_rfl) (by kernel_rfl) (by kernel_rfl) (fun _ _ _ h => h) (Or.inl ⟨by kernel_rfl, ?_⟩) (by assumption) ?_
  rotate_left
  · intro w hSw; (try dsimp only at hSw); have d1 := (CX.out w hSw).1; have d2 := (CX.out w hSw).2.1; have d3 := (CX.out w hSw).2.2.1; have d4 := (CX.out w hSw).2.2.2; go_simp; try with_reducible rfl
  try simp only [Act.put, List.setIfInBounds_toArray, List.set_cons_zero, List.set_cons_succ]
  refine heldL_take (i := 23) (v := ?_) rfl (by kernel_rfl) (by kernel_rfl) (by kernel_rfl) (by kernel_rfl) (fun _ _ _ h => h) (Or.inl ⟨by kernel_rfl, ?_⟩) (by assumption) ?_
  rotate_left
  · intro w hSw; (try dsimp only at hSw); have d1 := (CX.out w hSw).1; have d2 := (CX.out w hSw).2.1; have d3 := (CX.out w hSw).2.2.1; have d4 := (CX.out w hSw).2.2.2; go_simp; try with_reducible rfl
  try simp only [Act.put, List.setIfInBounds_toArray, List.set_cons_zero, List.set_cons_succ]
  refine heldL_take (i := 24) (v := ?_) rfl (by kernel_rfl) (by kernel_rfl) (by kernel_rfl) (by kernel_rfl) (fun _ _ _ h => h) (Or.inl ⟨by kernel_rfl, ?_⟩) (by assumption) ?_
  rotate_left
  · intro w hSw; (try dsimp only at hSw); have d1 := (CX.out w hSw).1; have d2 := (CX.out w hSw).2.1; have d3 := (CX.out w hSw).2.2.1; have d4 := (CX.out w hSw).2.2.2; go_simp; try with_reducible rfl
  try simp only [Act.put, List.setIfInBounds_toArray, List.set_cons_zero, List.set_cons_succ]
  refine heldL_ready (rs := [19]) (by kernel_rfl) (by simp) ?_
  refine AllL.cons rfl (fun K hK => ?_) AllL.nil
  go_simp
  go_at_call 16
  refine (KId.out _ hHeld).mono ?_
  rintro e w1 ⟨rfl, rfl⟩
  refine hK.out _ _ (fun _ => hHeld) (fun hHeld => ?_)
  replace hHeld := hHeld (by decide)
  clear hK K
  try simp only [Act.put, List.setIfInBounds_toArray, List.set_cons_zero, List.set_cons_succ]
  refine heldL_take (i := 25) (v := ?_) rfl (by kernel_rfl) (by kernel_rfl) (by kernel_rfl) (by kernel_rfl) (fun _ _ _ h => h) (Or.inl ⟨by kernel_rfl, ?_⟩) (by assumption) ?_
  rotate_left
  · intro w hSw; (try dsimp only at hSw); have d1 := (CX.out w hSw).1; have d2 := (CX.out w hSw).2.1; have d3 := (CX.out w hSw).2.2.1; have d4 := (CX.out w hSw).2.2.2; go_simp; try with_reducible rfl
  try simp only [Act.put, List.setIfInBounds_toArray, List.set_cons_zero, List.set_cons_succ]
  refine heldL_take (i := 26) (v := ?_) rfl (by kernel_rfl) (by kernel_rfl) (by kernel_rfl) (by kernel_rfl) (fun _ _ _ h => h) (Or.inl ⟨by kernel_rfl, ?_⟩) (by assumption) ?_
  rotate_left
  · intro w hSw; (try dsimp only at hSw); have d1 := (CX.out w hSw).1; have d2 := (CX.out w hSw).2.1; have d3 := (CX.out w hSw).2.2.1; have d4 := (CX.out w hSw).2.2.2; go_simp; try with_reducible rfl
  try simp only [Act.put, List.setIfInBounds_toArray, List.set_cons_zero, List.set_cons_succ]
  refine heldL_take (i := 27) (v := ?_) rfl (by kernel_rfl) (by kernel_rfl) (by kernel_rfl) (by kernel_rfl) (fun _ _ _ h => h) (Or.inl ⟨by kernel_rfl, ?_⟩) (by assumption) ?_
  rotate_left
  · intro w hSw; (try dsimp only at hSw); have d1 := (CX.out w hSw).1; have d2 := (CX.out w hSw).2.1; have d3 := (CX.out w hSw).2.2.1; have d4 := (CX.out w hSw).2.2.2; go_simp; try with_reducible rfl
  try simp only [Act.put, List.setIfInBounds_toArray, List.set_cons_zero, List.set_cons_succ]
  refine heldL_take (i := 28) (v := ?_) rfl (by kernel_rfl) (by kernel_rfl) (by kernel_rfl) (by kernel_rfl) (fun _ _ _ h => h) (Or.inl ⟨by kernel_rfl, ?_⟩) (by assumption) ?_
  rotate_left
  · intro w hSw; (try dsimp only at hSw); have d1 := (CX.out w hSw).1; have d2 := (CX.out w hSw).2.1; have d3 := (CX.out w hSw).2.2.1; have d4 := (CX.out w hSw).2.2.2; go_simp; try with_reducible rfl
  try simp only [Act.put, List.setIfInBounds_toArray, List.set_cons_zero, List.set_cons_succ]
  refine heldL_take (i := 30) (v := ?_) rfl (by kernel_rfl) (by kernel_rfl) (by kernel_rfl) (by kernel_rfl) (fun _ _ _ h => h) (Or.inl ⟨by kernel_rfl, ?_⟩) (by assumption) ?_
  rotate_left
  · intro w hSw; (try dsimp only at hSw); have d1 := (CX.out w hSw).1; have d2 := (CX.out w hSw).2.1; have d3 := (CX.out w hSw).2.2.1; have d4 := (CX.out w hSw).2.2.2; go_simp; try with_reducible rfl
  try simp only [Act.put, List.setIfInBounds_toArray, List.set_cons_zero, List.set_cons_succ]
  refine heldL_ready (rs := [29]) (by kernel_rfl) (by simp) ?_
  refine AllL.cons rfl (fun K hK => ?_) AllL.nil
  go_simp
  go_at_call 37
  refine (KSt.out _ hHeld).mono ?_
  rintro e w1 ⟨rfl, rfl⟩
  refine hK.out _ _ (fun _ => hHeld) (fun hHeld => ?_)
  replace hHeld := hHeld (by decide)
  clear hK K
  try simp only [Act.put, List.setIfInBounds_toArray, List.set_cons_zero, List.set_cons_succ]
  refine heldL_ready (rs := [31]) (by kernel_rfl) (by simp) ?_
  refine AllL.cons rfl (fun K hK => ?_) AllL.nil
  go_simp
  go_at_call 38
  refine (KSd.out _ hHeld).mono ?_
  rintro e w1 ⟨rfl, rfl⟩
  refine hK.out _ _ (fun _ => hHeld) (fun hHeld => ?_)
  replace hHeld := hHeld (by decide)
  clear hK K
  try simp only [Act.put, List.setIfInBounds_toArray, List.set_cons_zero, List.set_cons_succ]
  refine heldL_take (i := 32) (v := ?_) rfl (by kernel_rfl) (by kernel_rfl) (by kernel_rfl) (by kernel_rfl) (fun _ _ _ h => h) (Or.inl ⟨by kernel_rfl, ?_⟩) (by assumption) ?_
  rotate_left
  · intro w hSw; (try dsimp only at hSw); have d1 := (CX.out w hSw).1; have d2 := (CX.out w hSw).2.1; have d3 := (CX.out w hSw).2.2.1; have d4 := (CX.out w hSw).2.2.2; go_simp; try with_reducible rfl
  try simp only [Act.put, List.setIfInBounds_toArray, List.set_cons_zero, List.set_cons_succ]
  refine heldL_take (i := 33) (v := ?_) rfl (by kernel_rfl) (by kernel_rfl) (by kernel_rfl) (by kernel_rfl) (fun _ _ _ h => h) (Or.inl ⟨by kernel_rfl, ?_⟩) (by assumption) ?_
  rotate_left
  · intro w hSw; (try dsimp only at hSw); have d1 := (CX.out w hSw).1; have d2 := (CX.out w hSw).2.1; have d3 := (CX.out w hSw).2.2.1; have d4 := (CX.out w hSw).2.2.2; go_simp; try with_reducible rfl
  try simp only [Act.put, List.setIfInBounds_toArray, List.set_cons_zero, List.set_cons_succ]
  refine heldL_take (i := 34) (v := ?_) rfl (by kernel_rfl) (by kernel_rfl) (by kernel_rfl) (by kernel_rfl) (fun _ _ _ h => h) (Or.inl ⟨by kernel_rfl, ?_⟩) (by assumption) ?_
  rotate_left
  · intro w hSw; (try dsimp only at hSw); have d1 := (CX.out w hSw).1; have d2 := (CX.out w hSw).2.1; have d3 := (CX.out w hSw).2.2.1; have d4 := (CX.out w hSw).2.2.2; go_simp; try with_reducible rfl
  try simp only [Act.put, List.setIfInBounds_toArray, List.set_cons_zero, List.set_cons_succ]
  refine heldL_take (i := 35) (v := ?_) rfl (by kernel_rfl) (by kernel_rfl) (by kernel_rfl) (by kernel_rfl) (fun _ _ _ h => h) (Or.inl ⟨by kernel_rfl, ?_⟩) (by assumption) ?_
  rotate_left
  · intro w hSw; (try dsimp only at hSw); have d1 := (CX.out w hSw).1; have d2 := (CX.out w hSw).2.1; have d3 := (CX.out w hSw).2.2.1; have d4 := (CX.out w hSw).2.2.2; go_simp; try with_reducible rfl
  try simp only [Act.put, List.setIfInBounds_toArray, List.set_cons_zero, List.set_cons_succ]
  refine heldL_take (i := 37) (v := ?_) rfl (by kernel_rfl) (by kernel_rfl) (by kernel_rfl) (by kernel_rfl) (fun _ _ _ h => h) (Or.inl ⟨by kernel_rfl, ?_⟩) (by assumption) ?_
  rotate_left
  · intro w hSw; (try dsimp only at hSw); have d1 := (CX.out w hSw).1; have d2 := (CX.out w hSw).2.1; have d3 := (CX.out w hSw).2.2.1; have d4 := (CX.out w hSw).2.2.2; go_simp; try with_reducible rfl
  try simp only [Act.put, List.setIfInBounds_toArray, List.set_cons_zero, List.set_cons_succ]
  refine heldL_take (i := 38) (v := ?_) rfl (by kernel_rfl) (by kernel_rfl) (by kernel_rfl) (by kernel_rfl) (fun _ _ _ h => h) (Or.inl ⟨by kernel_rfl, ?_⟩) (by assumption) ?_
  rotate_left
  · intro w hSw; (try dsimp only at hSw); have d1 := (CX.out w hSw).1; have d2 := (CX.out w hSw).2.1; have d3 := (CX.out w hSw).2.2.1; have d4 := (CX.out w hSw).2.2.2; go_simp; try with_reducible rfl
  try simp only [Act.put, List.setIfInBounds_toArray, List.set_cons_zero, List.set_cons_succ]
  refine heldL_take (i := 39) (v := ?_) rfl (by kernel_rfl) (by kernel_rfl) (by kernel_rfl) (by kernel_rfl) (fun _ _ _ h => h) (Or.inl ⟨by kernel_rfl, ?_⟩) (by assumption) ?_
  rotate_left
  · intro w hSw; (try dsimp only at hSw); have d1 := (CX.out w hSw).1; have d2 := (CX.out w hSw).2.1; have d3 := (CX.out w hSw).2.2.1; have d4 := (CX.out w hSw).2.2.2; go_simp; try with_reducible rfl
  try simp only [Act.put, List.setIfInBounds_toArray, List.set_cons_zero, List.set_cons_succ]
  refine heldL_take (i := 40) (v := ?_) rfl (by kernel_rfl) (by kernel_rfl) (by kernel_rfl) (by kernel_rfl) (fun _ _ _ h => h) (Or.inl ⟨by kernel_rfl, ?_⟩) (by assumption) ?_
  rotate_left
  · intro w hSw; (try dsimp only at hSw); have d1 := (CX.out w hSw).1; have d2 := (CX.out w hSw).2.1; have d3 := (CX.out w hSw).2.2.1; have d4 := (CX.out w hSw).2.2.2; go_simp; try with_reducible rfl
  try simp only [Act.put, List.setIfInBounds_toArray, List.set_cons_zero, List.set_cons_succ]
  refine heldL_ready (rs := [36]) (by kernel_rfl) (by simp) ?_
  refine AllL.cons rfl (fun K hK => ?_) AllL.nil
  go_simp
  go_at_call 39
  refine (KGl.out _ hHeld).mono ?_
  rintro e w1 ⟨u1, rfl, hu, hx⟩
  refine hK.out _ _ (fun _ => (hHeld.trans hx)) (fun hHeld => ?_)
  replace hHeld := hHeld (by decide)
  clear hK K
  try simp only [Act.put, List.setIfInBounds_toArray, List.set_cons_zero, List.set_cons_succ]
  have HU := Lib.hid (Rn.of hu)
  clear hu hx
  refine heldL_ready (rs := [41]) (by kernel_rfl) (by simp) ?_
  refine AllL.cons rfl (fun K hK => ?_) AllL.nil
  go_simp
  go_at_call 9
  refine (ints_same HGL.out HU.out (HGV.out _ hHeld)).mono ?_
  rintro e w2 ⟨rfl, hx⟩
  refine hK.out _ _ (fun _ => (hHeld.trans hx)) (fun hHeld => ?_)
  replace hHeld := hHeld (by decide)
  clear hK K
  try simp only [Act.put, List.setIfInBounds_toArray, List.set_cons_zero, List.set_cons_succ]
  clear hx HU
  refine heldL_take (i := 42) (v := ?_) rfl (by kernel_rfl) (by kernel_rfl) (by kernel_rfl) (by kernel_rfl) (fun _ _ _ h => h) (Or.inl ⟨by kernel_rfl, ?_⟩) (by assumption) ?_
  rotate_left
  · intro w hSw; (try dsimp only at hSw); have d1 := (CX.out w hSw).1; have d2 := (CX.out w hSw).2.1; have d3 := (CX.out w hSw).2.2.1; have d4 := (CX.out w hSw).2.2.2; go_simp; try with_reducible rfl
  try simp only [Act.put, List.setIfInBounds_toArray, List.set_cons_zero, List.set_cons_succ]
  refine heldL_ready (rs := [43]) (by kernel_rfl) (by simp) ?_
  refine AllL.cons rfl (fun K hK => ?_) AllL.nil
  go_simp
  refine hK.out _ _ (fun h => (h rfl).elim) (fun _ => ?_)
  clear hK K
  try simp only [Act.put, List.setIfInBounds_toArray, List.set_cons_zero, List.set_cons_succ]
  refine heldL_done (by kernel_rfl) ?_ _
  have HX1 := Lib.hid hHeld
  clear hHeld KGs KCl KId KSt KSd KGl
  go_wp2_with fail
  go_loopw [5] (fun iv wr => ∃ j : Nat, j ≤ gk ∧ iv = .int .i64 j ∧ Ex w wr) (fun iv _ => gk - (intOf iv).toNat)
  case atStart => exact ⟨0, Nat.zero_le _, rfl, HX1.out⟩
  case round =>
    obtain ⟨g, hg, rfl, hx⟩ := hrel
    have HX := Lib.hid hx
    have d1 := (CX.out wr hx).1
    clear hx HX1
    by_cases hlt : g < gk
    · have hgm : g < m.gs.length := by rw [HGK.out]; exact hlt
      have K1 := Lib.hid (fun W1 (x : Ex w W1) => KNm.out W1 x g hgm)
      have K2 := Lib.hid (fun W1 (x : Ex w W1) => KNd.out W1 x g hgm)
      have K3 := Lib.hid (fun W1 (x : Ex w W1) => KSm.out W1 x g)
      have K4 := Lib.hid (fun W1 (x : Ex w W1) => KSk.out W1 x g hgm)
      obtain ⟨io, hio⟩ : ∃ io, nextO F m g = io := ⟨_, rfl⟩
      obtain ⟨nb, hnb⟩ : ∃ b, nextB m g = b := ⟨_, rfl⟩
      obtain ⟨s, hs⟩ : ∃ s, m.st.getD g 0 = s := ⟨_, rfl⟩
      rw [hio, hnb] at K1 K2
      rw [hs] at K3
      obtain ⟨o0, o1, o2, o3⟩ := io
      unfold instV at K1 K2
      clear hio hnb
      go_wp2_with fail
      refine (K1.out wr HX.out).mono ?_
      rintro e w3 ⟨rfl, hx3⟩
      have HX3 := Lib.hid (HX.out.trans hx3)
      have hb1 := Box.fresh w3 #[.int .i64 o0, .int .i64 o1, .int .i64 o2, .int .i64 o3] 58
      have hm1 := Ex.made w3 (.cells #[.int .i64 o0, .int .i64 o1, .int .i64 o2, .int .i64 o3] 58)
      clear hx3 K1 d1
      go_upto_region 7 with fail
      obtain ⟨i1, hi1⟩ : ∃ b, w3.heap.size = b := ⟨_, rfl⟩
      obtain ⟨W4, hW4⟩ : ∃ W4, W4 = w3.alloc (.cells #[.int .i64 o0, .int .i64 o1, .int .i64 o2, .int .i64 o3] 58) := ⟨_, rfl⟩
      rw [← hW4] at hb1 hm1 ⊢
      rw [hi1] at hb1 ⊢
      have HX4 := Lib.hid (HX3.out.trans hm1)
      clear hW4 hi1 hm1 HX3
      go_wp2_with fail
      refine (K2.out W4 HX4.out).mono ?_
      rintro e w5 ⟨rfl, hx5⟩
      have hb2 := Box.fresh w5 #[.int .i64 o0, .int .i64 o1, .int .i64 o2, .int .i64 o3] 58
      have hm2 := Ex.made w5 (.cells #[.int .i64 o0, .int .i64 o1, .int .i64 o2, .int .i64 o3] 58)
      go_upto_region 8 with fail
      obtain ⟨i2, hi2⟩ : ∃ b, w5.heap.size = b := ⟨_, rfl⟩
      obtain ⟨W6, hW6⟩ : ∃ W6, W6 = w5.alloc (.cells #[.int .i64 o0, .int .i64 o1, .int .i64 o2, .int .i64 o3] 58) := ⟨_, rfl⟩
      rw [← hW6] at hb2 hm2 ⊢
      rw [hi2] at hb2 ⊢
      have HX6 := Lib.hid (HX4.out.trans (hx5.trans hm2))
      have B1 := Lib.hid ((hb1.ex hx5).ex hm2)
      have B2 := Lib.hid hb2
      clear hW6 hi2 hm2 hx5 hb1 hb2 K2 HX4
      have R6 := HRR.out.exs HX6.out
      obtain ⟨rb, rc, hgv, rlt, rcap, rcell⟩ := R6.gvat hgm
      have c2 := (CX.out W6 HX6.out).1
      have c2' : W6.cell? ⟨xb, 2, none⟩ = some A.gv := R6.box.box.cell 2
      rw [c2', hgv, HGK.out] at c2
      injection c2 with c2
      injection c2 with e1 e2 e3
      have hB := (R6.gor g hgm).box
      have hK := (R6.stk g hgm).box
      have HSTK : Hid (∀ W1, Ex W6 W1 → Rn W1 (.slice (some ⟨A.sk g, 0, none⟩) 16 16) (m.at g).stack) := Lib.hid (fun W1 z => by
        have hl := HSKL.out g hgm
        refine ⟨some ⟨A.sk g, 0, none⟩, 16, by rw [hl], (fun e => by cases e), by omega, fun j hj => ⟨A.sk g, 0, rfl, (hK.ex z).lt, ?_⟩⟩
        rw [Nat.zero_add, (hK.ex z).cell]
        exact stk_at _ j hj)
      have CY : Hid (∀ W1, Ex W6 W1 → W1.cell? ⟨xb, 2, none⟩ = some (.slice (some ⟨rb, 0, none⟩) gk vc) ∧ W1.cell? ⟨rb, g, none⟩ = some (.pointer (some ⟨A.gb g, 0, none⟩)) ∧ W1.cell? ⟨A.gb g, 0, none⟩ = some (.int .i64 (s : Nat)) ∧ W1.cell? ⟨A.gb g, 4, none⟩ = some (.slice (some ⟨A.sk g, 0, none⟩) 16 16)) := Lib.hid (fun W1 z => by
        have h1 := (CX.out W1 (HX6.out.trans z)).1
        rw [← e1] at h1
        refine ⟨h1, (z.cell (p := ⟨rb, g, none⟩) rlt).trans rcell, ?_, ?_⟩
        · rw [(hB.ex z).cell, ← hs]; rfl
        · rw [(hB.ex z).cell]; rfl)
      obtain ⟨gb, hgb⟩ : ∃ gb, A.gb g = gb := ⟨_, rfl⟩
      obtain ⟨sb, hsb⟩ : ∃ sb, A.sk g = sb := ⟨_, rfl⟩
      rw [hgb, hsb] at CY
      rw [hsb] at HSTK
      obtain ⟨stk, hstk⟩ : ∃ l, (m.at g).stack = l := ⟨_, rfl⟩
      have HSL1 : Hid (stk.length ≤ 100000) := Lib.hid (by rw [← hstk, HSKL.out g hgm]; omega)
      rw [hstk] at HSTK K4
      have g0 : (0 : Int) ≤ (g : Int) := by omega
      have g1 : (g : Int) < (gk : Int) := by omega
      clear R6 hgv rlt rcap rcell c2' e1 e2 e3 hB hK hgb hsb hstk hs hgm
      refine wp_region_last (S := fun w' => Ex W6 w') 40 41 (by kernel_rfl) (by kernel_rfl) (by kernel_rfl) (ex_drw W6) (fun hHeld => ?_)
      generalize W6.drew = Y0 at *
      refine heldL_take (i := 0) (v := ?_) rfl (by kernel_rfl) (by kernel_rfl) (by kernel_rfl) (by kernel_rfl) (fun _ _ _ h => h) (Or.inl ⟨by kernel_rfl, ?_⟩) (by assumption) ?_
      rotate_left
      · intro w hSw; (try dsimp only at hSw); have d1 := (CY.out w hSw).1; have d2 := (CY.out w hSw).2.1; have d3 := (CY.out w hSw).2.2.1; have d4 := (CY.out w hSw).2.2.2; go_simp; try with_reducible rfl
      try simp only [Act.put, List.setIfInBounds_toArray, List.set_cons_zero, List.set_cons_succ]
      refine heldL_take (i := 1) (v := ?_) rfl (by kernel_rfl) (by kernel_rfl) (by kernel_rfl) (by kernel_rfl) (fun _ _ _ h => h) (Or.inl ⟨by kernel_rfl, ?_⟩) (by assumption) ?_
      rotate_left
      · intro w hSw; (try dsimp only at hSw); have d1 := (CY.out w hSw).1; have d2 := (CY.out w hSw).2.1; have d3 := (CY.out w hSw).2.2.1; have d4 := (CY.out w hSw).2.2.2; go_simp; try with_reducible rfl
      try simp only [Act.put, List.setIfInBounds_toArray, List.set_cons_zero, List.set_cons_succ]
      refine heldL_take (i := 3) (v := ?_) rfl (by kernel_rfl) (by kernel_rfl) (by kernel_rfl) (by kernel_rfl) (fun _ _ _ h => h) (Or.inl ⟨by kernel_rfl, ?_⟩) (by assumption) ?_
      rotate_left
      · intro w hSw; (try dsimp only at hSw); have d1 := (CY.out w hSw).1; have d2 := (CY.out w hSw).2.1; have d3 := (CY.out w hSw).2.2.1; have d4 := (CY.out w hSw).2.2.2; go_simp; try with_reducible rfl
      try simp only [Act.put, List.setIfInBounds_toArray, List.set_cons_zero, List.set_cons_succ]
      refine heldL_take (i := 4) (v := ?_) rfl (by kernel_rfl) (by kernel_rfl) (by kernel_rfl) (by kernel_rfl) (fun _ _ _ h => h) (Or.inl ⟨by kernel_rfl, ?_⟩) (by assumption) ?_
      rotate_left
      · intro w hSw; (try dsimp only at hSw); have d1 := (CY.out w hSw).1; have d2 := (CY.out w hSw).2.1; have d3 := (CY.out w hSw).2.2.1; have d4 := (CY.out w hSw).2.2.2; go_simp; try with_reducible rfl
      try simp only [Act.put, List.setIfInBounds_toArray, List.set_cons_zero, List.set_cons_succ]
      refine heldL_take (i := 5) (v := ?_) rfl (by kernel_rfl) (by kernel_rfl) (by kernel_rfl) (by kernel_rfl) (fun _ _ _ h => h) (Or.inl ⟨by kernel_rfl, ?_⟩) (by assumption) ?_
      rotate_left
      · intro w hSw; (try dsimp only at hSw); have d1 := (CY.out w hSw).1; have d2 := (CY.out w hSw).2.1; have d3 := (CY.out w hSw).2.2.1; have d4 := (CY.out w hSw).2.2.2; go_simp; try with_reducible rfl
      try simp only [Act.put, List.setIfInBounds_toArray, List.set_cons_zero, List.set_cons_succ]
      refine heldL_take (i := 6) (v := ?_) rfl (by kernel_rfl) (by kernel_rfl) (by kernel_rfl) (by kernel_rfl) (fun _ _ _ h => h) (Or.inl ⟨by kernel_rfl, ?_⟩) (by assumption) ?_
      rotate_left
      · intro w hSw; (try dsimp only at hSw); have d1 := (CY.out w hSw).1; have d2 := (CY.out w hSw).2.1; have d3 := (CY.out w hSw).2.2.1; have d4 := (CY.out w hSw).2.2.2; go_simp; try with_reducible rfl
      try simp only [Act.put, List.setIfInBounds_toArray, List.set_cons_zero, List.set_cons_succ]
      refine heldL_take (i := 7) (v := ?_) rfl (by kernel_rfl) (by kernel_rfl) (by kernel_rfl) (by kernel_rfl) (fun _ _ _ h => h) (Or.inl ⟨by kernel_rfl, ?_⟩) (by assumption) ?_
      rotate_left
      · intro w hSw; (try dsimp only at hSw); have d1 := (CY.out w hSw).1; have d2 := (CY.out w hSw).2.1; have d3 := (CY.out w hSw).2.2.1; have d4 := (CY.out w hSw).2.2.2; go_simp; try with_reducible rfl
      try simp only [Act.put, List.setIfInBounds_toArray, List.set_cons_zero, List.set_cons_succ]
      refine heldL_take (i := 8) (v := ?_) rfl (by kernel_rfl) (by kernel_rfl) (by kernel_rfl) (by kernel_rfl) (fun _ _ _ h => h) (Or.inl ⟨by kernel_rfl, ?_⟩) (by assumption) ?_
      rotate_left
      · intro w hSw; (try dsimp only at hSw); have d1 := (CY.out w hSw).1; have d2 := (CY.out w hSw).2.1; have d3 := (CY.out w hSw).2.2.1; have d4 := (CY.out w hSw).2.2.2; go_simp; try with_reducible rfl
      try simp only [Act.put, List.setIfInBounds_toArray, List.set_cons_zero, List.set_cons_succ]
      refine heldL_take (i := 9) (v := ?_) rfl (by kernel_rfl) (by kernel_rfl) (by kernel_rfl) (by kernel_rfl) (fun _ _ _ h => h) (Or.inl ⟨by kernel_rfl, ?_⟩) (by assumption) ?_
      rotate_left
      · intro w hSw; (try dsimp only at hSw); have d1 := (CY.out w hSw).1; have d2 := (CY.out w hSw).2.1; have d3 := (CY.out w hSw).2.2.1; have d4 := (CY.out w hSw).2.2.2; go_simp; try with_reducible rfl
      try simp only [Act.put, List.setIfInBounds_toArray, List.set_cons_zero, List.set_cons_succ]
      refine heldL_take (i := 10) (v := ?_) rfl (by kernel_rfl) (by kernel_rfl) (by kernel_rfl) (by kernel_rfl) (fun _ _ _ h => h) (Or.inl ⟨by kernel_rfl, ?_⟩) (by assumption) ?_
      rotate_left
      · intro w hSw; (try dsimp only at hSw); have d1 := (CY.out w hSw).1; have d2 := (CY.out w hSw).2.1; have d3 := (CY.out w hSw).2.2.1; have d4 := (CY.out w hSw).2.2.2; go_simp; try with_reducible rfl
      try simp only [Act.put, List.setIfInBounds_toArray, List.set_cons_zero, List.set_cons_succ]
      refine heldL_take (i := 11) (v := ?_) rfl (by kernel_rfl) (by kernel_rfl) (by kernel_rfl) (by kernel_rfl) (fun _ _ _ h => h) (Or.inl ⟨by kernel_rfl, ?_⟩) (by assumption) ?_
      rotate_left
      · intro w hSw; (try dsimp only at hSw); have d1 := (CY.out w hSw).1; have d2 := (CY.out w hSw).2.1; have d3 := (CY.out w hSw).2.2.1; have d4 := (CY.out w hSw).2.2.2; go_simp; try with_reducible rfl
      try simp only [Act.put, List.setIfInBounds_toArray, List.set_cons_zero, List.set_cons_succ]
      refine heldL_take (i := 12) (v := ?_) rfl (by kernel_rfl) (by kernel_rfl) (by kernel_rfl) (by kernel_rfl) (fun _ _ _ h => h) (Or.inl ⟨by kernel_rfl, ?_⟩) (by assumption) ?_
      rotate_left
      · intro w hSw; (try dsimp only at hSw); have d1 := (CY.out w hSw).1; have d2 := (CY.out w hSw).2.1; have d3 := (CY.out w hSw).2.2.1; have d4 := (CY.out w hSw).2.2.2; go_simp; try with_reducible rfl
      try simp only [Act.put, List.setIfInBounds_toArray, List.set_cons_zero, List.set_cons_succ]
      refine heldL_ready (rs := [2]) (by kernel_rfl) (by simp) ?_
      refine AllL.cons rfl (fun K hK => ?_) AllL.nil
      go_simp
      go_at_call 18
      refine (K3.out _ (HX6.out.trans hHeld)).mono ?_
      rintro e w7 ⟨rfl, rfl⟩
      refine hK.out _ _ (fun _ => hHeld) (fun hHeld => ?_)
      replace hHeld := hHeld (by decide)
      clear hK K
      try simp only [Act.put, List.setIfInBounds_toArray, List.set_cons_zero, List.set_cons_succ]
      refine heldL_take (i := 13) (v := ?_) rfl (by kernel_rfl) (by kernel_rfl) (by kernel_rfl) (by kernel_rfl) (fun _ _ _ h => h) (Or.inl ⟨by kernel_rfl, ?_⟩) (by assumption) ?_
      rotate_left
      · intro w hSw; (try dsimp only at hSw); have d1 := (CY.out w hSw).1; have d2 := (CY.out w hSw).2.1; have d3 := (CY.out w hSw).2.2.1; have d4 := (CY.out w hSw).2.2.2; go_simp; try with_reducible rfl
      try simp only [Act.put, List.setIfInBounds_toArray, List.set_cons_zero, List.set_cons_succ]
      refine heldL_take (i := 14) (v := ?_) rfl (by kernel_rfl) (by kernel_rfl) (by kernel_rfl) (by kernel_rfl) (fun _ _ _ h => h) (Or.inl ⟨by kernel_rfl, ?_⟩) (by assumption) ?_
      rotate_left
      · intro w hSw; (try dsimp only at hSw); have d1 := (CY.out w hSw).1; have d2 := (CY.out w hSw).2.1; have d3 := (CY.out w hSw).2.2.1; have d4 := (CY.out w hSw).2.2.2; go_simp; try with_reducible rfl
      try simp only [Act.put, List.setIfInBounds_toArray, List.set_cons_zero, List.set_cons_succ]
      refine heldL_take (i := 15) (v := ?_) rfl (by kernel_rfl) (by kernel_rfl) (by kernel_rfl) (by kernel_rfl) (fun _ _ _ h => h) (Or.inl ⟨by kernel_rfl, ?_⟩) (by assumption) ?_
      rotate_left
      · intro w hSw; (try dsimp only at hSw); have d1 := (CY.out w hSw).1; have d2 := (CY.out w hSw).2.1; have d3 := (CY.out w hSw).2.2.1; have d4 := (CY.out w hSw).2.2.2; go_simp; try with_reducible rfl
      try simp only [Act.put, List.setIfInBounds_toArray, List.set_cons_zero, List.set_cons_succ]
      refine heldL_take (i := 16) (v := ?_) rfl (by kernel_rfl) (by kernel_rfl) (by kernel_rfl) (by kernel_rfl) (fun _ _ _ h => h) (Or.inl ⟨by kernel_rfl, ?_⟩) (by assumption) ?_
      rotate_left
      · intro w hSw; (try dsimp only at hSw); have d1 := (CY.out w hSw).1; have d2 := (CY.out w hSw).2.1; have d3 := (CY.out w hSw).2.2.1; have d4 := (CY.out w hSw).2.2.2; go_simp; try with_reducible rfl
      try simp only [Act.put, List.setIfInBounds_toArray, List.set_cons_zero, List.set_cons_succ]
      refine heldL_take (i := 18) (v := ?_) rfl (by kernel_rfl) (by kernel_rfl) (by kernel_rfl) (by kernel_rfl) (fun _ _ _ h => h) (Or.inl ⟨by kernel_rfl, ?_⟩) (by assumption) ?_
      rotate_left
      · intro w hSw; (try dsimp only at hSw); have d1 := (CY.out w hSw).1; have d2 := (CY.out w hSw).2.1; have d3 := (CY.out w hSw).2.2.1; have d4 := (CY.out w hSw).2.2.2; go_simp; try with_reducible rfl
      try simp only [Act.put, List.setIfInBounds_toArray, List.set_cons_zero, List.set_cons_succ]
      refine heldL_take (i := 19) (v := ?_) rfl (by kernel_rfl) (by kernel_rfl) (by kernel_rfl) (by kernel_rfl) (fun _ _ _ h => h) (Or.inl ⟨by kernel_rfl, ?_⟩) (by assumption) ?_
      rotate_left
      · intro w hSw; (try dsimp only at hSw); have d1 := (CY.out w hSw).1; have d2 := (CY.out w hSw).2.1; have d3 := (CY.out w hSw).2.2.1; have d4 := (CY.out w hSw).2.2.2; go_simp; try with_reducible rfl
      try simp only [Act.put, List.setIfInBounds_toArray, List.set_cons_zero, List.set_cons_succ]
      refine heldL_take (i := 20) (v := ?_) rfl (by kernel_rfl) (by kernel_rfl) (by kernel_rfl) (by kernel_rfl) (fun _ _ _ h => h) (Or.inl ⟨by kernel_rfl, ?_⟩) (by assumption) ?_
      rotate_left
      · intro w hSw; (try dsimp only at hSw); have d1 := (CY.out w hSw).1; have d2 := (CY.out w hSw).2.1; have d3 := (CY.out w hSw).2.2.1; have d4 := (CY.out w hSw).2.2.2; go_simp; try with_reducible rfl
      try simp only [Act.put, List.setIfInBounds_toArray, List.set_cons_zero, List.set_cons_succ]
      refine heldL_take (i := 21) (v := ?_) rfl (by kernel_rfl) (by kernel_rfl) (by kernel_rfl) (by kernel_rfl) (fun _ _ _ h => h) (Or.inl ⟨by kernel_rfl, ?_⟩) (by assumption) ?_
      rotate_left
      · intro w hSw; (try dsimp only at hSw); have d1 := (CY.out w hSw).1; have d2 := (CY.out w hSw).2.1; have d3 := (CY.out w hSw).2.2.1; have d4 := (CY.out w hSw).2.2.2; go_simp; try with_reducible rfl
      try simp only [Act.put, List.setIfInBounds_toArray, List.set_cons_zero, List.set_cons_succ]
      refine heldL_take (i := 22) (v := ?_) rfl (by kernel_rfl) (by kernel_rfl) (by kernel_rfl) (by kernel_rfl) (fun _ _ _ h => h) (Or.inl ⟨by kernel_rfl, ?_⟩) (by assumption) ?_
      rotate_left
      · intro w hSw; (try dsimp only at hSw); have d1 := (CY.out w hSw).1; have d2 := (CY.out w hSw).2.1; have d3 := (CY.out w hSw).2.2.1; have d4 := (CY.out w hSw).2.2.2; go_simp; try with_reducible rfl
      try simp only [Act.put, List.setIfInBounds_toArray, List.set_cons_zero, List.set_cons_succ]
      refine heldL_take (i := 23) (v := ?_) rfl (by kernel_rfl) (by kernel_rfl) (by kernel_rfl) (by kernel_rfl) (fun _ _ _ h => h) (Or.inl ⟨by kernel_rfl, ?_⟩) (by assumption) ?_
      rotate_left
      · intro w hSw; (try dsimp only at hSw); have d1 := (CY.out w hSw).1; have d2 := (CY.out w hSw).2.1; have d3 := (CY.out w hSw).2.2.1; have d4 := (CY.out w hSw).2.2.2; go_simp; try with_reducible rfl
      try simp only [Act.put, List.setIfInBounds_toArray, List.set_cons_zero, List.set_cons_succ]
      refine heldL_take (i := 24) (v := ?_) rfl (by kernel_rfl) (by kernel_rfl) (by kernel_rfl) (by kernel_rfl) (fun _ _ _ h => h) (Or.inl ⟨by kernel_rfl, ?_⟩) (by assumption) ?_
      rotate_left
      · intro w hSw; (try dsimp only at hSw); have d1 := (CY.out w hSw).1; have d2 := (CY.out w hSw).2.1; have d3 := (CY.out w hSw).2.2.1; have d4 := (CY.out w hSw).2.2.2; go_simp; try with_reducible rfl
      try simp only [Act.put, List.setIfInBounds_toArray, List.set_cons_zero, List.set_cons_succ]
      refine heldL_take (i := 25) (v := ?_) rfl (by kernel_rfl) (by kernel_rfl) (by kernel_rfl) (by kernel_rfl) (fun _ _ _ h => h) (Or.inl ⟨by kernel_rfl, ?_⟩) (by assumption) ?_
      rotate_left
      · intro w hSw; (try dsimp only at hSw); have d1 := (CY.out w hSw).1; have d2 := (CY.out w hSw).2.1; have d3 := (CY.out w hSw).2.2.1; have d4 := (CY.out w hSw).2.2.2; go_simp; try with_reducible rfl
      try simp only [Act.put, List.setIfInBounds_toArray, List.set_cons_zero, List.set_cons_succ]
      refine heldL_take (i := 26) (v := ?_) rfl (by kernel_rfl) (by kernel_rfl) (by kernel_rfl) (by kernel_rfl) (fun _ _ _ h => h) (Or.inl ⟨by kernel_rfl, ?_⟩) (by assumption) ?_
      rotate_left
      · intro w hSw; (try dsimp only at hSw); have d1 := (CY.out w hSw).1; have d2 := (CY.out w hSw).2.1; have d3 := (CY.out w hSw).2.2.1; have d4 := (CY.out w hSw).2.2.2; go_simp; try with_reducible rfl
      try simp only [Act.put, List.setIfInBounds_toArray, List.set_cons_zero, List.set_cons_succ]
      refine heldL_take (i := 27) (v := ?_) rfl (by kernel_rfl) (by kernel_rfl) (by kernel_rfl) (by kernel_rfl) (fun _ _ _ h => h) (Or.inl ⟨by kernel_rfl, ?_⟩) (by assumption) ?_
      rotate_left
      · intro w hSw; (try dsimp only at hSw); have d1 := (CY.out w hSw).1; have d2 := (CY.out w hSw).2.1; have d3 := (CY.out w hSw).2.2.1; have d4 := (CY.out w hSw).2.2.2; go_simp; try with_reducible rfl
      try simp only [Act.put, List.setIfInBounds_toArray, List.set_cons_zero, List.set_cons_succ]
      refine heldL_ready (rs := [17]) (by kernel_rfl) (by simp) ?_
      refine AllL.cons rfl (fun K hK => ?_) AllL.nil
      go_simp
      go_at_call 40
      refine (K4.out _ (HX6.out.trans hHeld)).mono ?_
      rintro e w7 ⟨u1, rfl, hu, hx⟩
      refine hK.out _ _ (fun _ => (hHeld.trans hx)) (fun hHeld => ?_)
      replace hHeld := hHeld (by decide)
      clear hK K
      try simp only [Act.put, List.setIfInBounds_toArray, List.set_cons_zero, List.set_cons_succ]
      have HU := Lib.hid (Rn.of hu)
      clear hu hx
      refine heldL_ready (rs := [28]) (by kernel_rfl) (by simp) ?_
      refine AllL.cons rfl (fun K hK => ?_) AllL.nil
      go_simp
      go_at_call 9
      refine (ints_same HSL1.out HU.out (HSTK.out _ hHeld)).mono ?_
      rintro e w8 ⟨rfl, hx⟩
      refine hK.out _ _ (fun _ => (hHeld.trans hx)) (fun hHeld => ?_)
      replace hHeld := hHeld (by decide)
      clear hK K
      try simp only [Act.put, List.setIfInBounds_toArray, List.set_cons_zero, List.set_cons_succ]
      clear hx HU
      refine heldL_take (i := 29) (v := ?_) rfl (by kernel_rfl) (by kernel_rfl) (by kernel_rfl) (by kernel_rfl) (fun _ _ _ h => h) (Or.inl ⟨by kernel_rfl, ?_⟩) (by assumption) ?_
      rotate_left
      · intro w hSw; (try dsimp only at hSw); have d1 := (CY.out w hSw).1; have d2 := (CY.out w hSw).2.1; have d3 := (CY.out w hSw).2.2.1; have d4 := (CY.out w hSw).2.2.2; go_simp; try with_reducible rfl
      try simp only [Act.put, List.setIfInBounds_toArray, List.set_cons_zero, List.set_cons_succ]
      refine heldL_take (i := 30) (v := ?_) rfl (by kernel_rfl) (by kernel_rfl) (by kernel_rfl) (by kernel_rfl) (fun _ _ _ h => h) (Or.inl ⟨by kernel_rfl, ?_⟩) (by assumption) ?_
      rotate_left
      · intro w hSw; (try dsimp only at hSw); have d1 := (CY.out w hSw).1; have d2 := (CY.out w hSw).2.1; have d3 := (CY.out w hSw).2.2.1; have d4 := (CY.out w hSw).2.2.2; go_simp; try with_reducible rfl
      try simp only [Act.put, List.setIfInBounds_toArray, List.set_cons_zero, List.set_cons_succ]
      refine heldL_take (i := 31) (v := ?_) rfl (by kernel_rfl) (by kernel_rfl) (by kernel_rfl) (by kernel_rfl) (fun _ _ _ h => h) (Or.inl ⟨by kernel_rfl, ?_⟩) (by assumption) ?_
      rotate_left
      · intro w hSw; (try dsimp only at hSw); have d1 := (CY.out w hSw).1; have d2 := (CY.out w hSw).2.1; have d3 := (CY.out w hSw).2.2.1; have d4 := (CY.out w hSw).2.2.2; go_simp; try with_reducible rfl
      try simp only [Act.put, List.setIfInBounds_toArray, List.set_cons_zero, List.set_cons_succ]
      refine heldL_take (i := 32) (v := ?_) rfl (by kernel_rfl) (by kernel_rfl) (by kernel_rfl) (by kernel_rfl) (fun _ _ _ h => h) (Or.inl ⟨by kernel_rfl, ?_⟩) (by assumption) ?_
      rotate_left
      · intro w hSw; (try dsimp only at hSw); have b1 := B1.out.ex hSw; have b2 := B2.out.ex hSw; have x0 := b1.cell 0; have x1 := b1.cell 1; have x2 := b1.cell 2; have x3 := b1.cell 3; have y0 := b2.cell 0; have y1 := b2.cell 1; have y2 := b2.cell 2; have y3 := b2.cell 3; go_simp; try with_reducible rfl
      try simp only [Act.put, List.setIfInBounds_toArray, List.set_cons_zero, List.set_cons_succ]
      refine heldL_take (i := 33) (v := ?_) rfl (by kernel_rfl) (by kernel_rfl) (by kernel_rfl) (by kernel_rfl) (fun _ _ _ h => h) (Or.inl ⟨by kernel_rfl, ?_⟩) (by assumption) ?_
      rotate_left
      · intro w hSw; (try dsimp only at hSw); have b1 := B1.out.ex hSw; have b2 := B2.out.ex hSw; have x0 := b1.cell 0; have x1 := b1.cell 1; have x2 := b1.cell 2; have x3 := b1.cell 3; have y0 := b2.cell 0; have y1 := b2.cell 1; have y2 := b2.cell 2; have y3 := b2.cell 3; go_simp; try with_reducible rfl
      try simp only [Act.put, List.setIfInBounds_toArray, List.set_cons_zero, List.set_cons_succ]
      refine heldL_take (i := 34) (v := ?_) rfl (by kernel_rfl) (by kernel_rfl) (by kernel_rfl) (by kernel_rfl) (fun _ _ _ h => h) (Or.inl ⟨by kernel_rfl, ?_⟩) (by assumption) ?_
      rotate_left
      · intro w hSw; (try dsimp only at hSw); have d1 := (CY.out w hSw).1; have d2 := (CY.out w hSw).2.1; have d3 := (CY.out w hSw).2.2.1; have d4 := (CY.out w hSw).2.2.2; go_simp; try with_reducible rfl
      try simp only [Act.put, List.setIfInBounds_toArray, List.set_cons_zero, List.set_cons_succ]
      refine heldL_take (i := 35) (v := ?_) rfl (by kernel_rfl) (by kernel_rfl) (by kernel_rfl) (by kernel_rfl) (fun _ _ _ h => h) (Or.inl ⟨by kernel_rfl, ?_⟩) (by assumption) ?_
      rotate_left
      · intro w hSw; (try dsimp only at hSw); have d1 := (CY.out w hSw).1; have d2 := (CY.out w hSw).2.1; have d3 := (CY.out w hSw).2.2.1; have d4 := (CY.out w hSw).2.2.2; go_simp; try with_reducible rfl
      try simp only [Act.put, List.setIfInBounds_toArray, List.set_cons_zero, List.set_cons_succ]
      refine heldL_take (i := 36) (v := ?_) rfl (by kernel_rfl) (by kernel_rfl) (by kernel_rfl) (by kernel_rfl) (fun _ _ _ h => h) (Or.inl ⟨by kernel_rfl, ?_⟩) (by assumption) ?_
      rotate_left
      · intro w hSw; (try dsimp only at hSw); have d1 := (CY.out w hSw).1; have d2 := (CY.out w hSw).2.1; have d3 := (CY.out w hSw).2.2.1; have d4 := (CY.out w hSw).2.2.2; go_simp; try with_reducible rfl
      try simp only [Act.put, List.setIfInBounds_toArray, List.set_cons_zero, List.set_cons_succ]
      refine heldL_take (i := 37) (v := ?_) rfl (by kernel_rfl) (by kernel_rfl) (by kernel_rfl) (by kernel_rfl) (fun _ _ _ h => h) (Or.inl ⟨by kernel_rfl, ?_⟩) (by assumption) ?_
      rotate_left
      · intro w hSw; (try dsimp only at hSw); have d1 := (CY.out w hSw).1; have d2 := (CY.out w hSw).2.1; have d3 := (CY.out w hSw).2.2.1; have d4 := (CY.out w hSw).2.2.2; go_simp; try with_reducible rfl
      try simp only [Act.put, List.setIfInBounds_toArray, List.set_cons_zero, List.set_cons_succ]
      refine heldL_take (i := 38) (v := ?_) rfl (by kernel_rfl) (by kernel_rfl) (by kernel_rfl) (by kernel_rfl) (fun _ _ _ h => h) (Or.inl ⟨by kernel_rfl, ?_⟩) (by assumption) ?_
      rotate_left
      · intro w hSw; (try dsimp only at hSw); have d1 := (CY.out w hSw).1; have d2 := (CY.out w hSw).2.1; have d3 := (CY.out w hSw).2.2.1; have d4 := (CY.out w hSw).2.2.2; go_simp; try with_reducible rfl
      try simp only [Act.put, List.setIfInBounds_toArray, List.set_cons_zero, List.set_cons_succ]
      refine heldL_take (i := 39) (v := ?_) rfl (by kernel_rfl) (by kernel_rfl) (by kernel_rfl) (by kernel_rfl) (fun _ _ _ h => h) (Or.inl ⟨by kernel_rfl, ?_⟩) (by assumption) ?_
      rotate_left
      · intro w hSw; (try dsimp only at hSw); have d1 := (CY.out w hSw).1; have d2 := (CY.out w hSw).2.1; have d3 := (CY.out w hSw).2.2.1; have d4 := (CY.out w hSw).2.2.2; go_simp; try with_reducible rfl
      try simp only [Act.put, List.setIfInBounds_toArray, List.set_cons_zero, List.set_cons_succ]
      refine heldL_ready (rs := [40]) (by kernel_rfl) (by simp) ?_
      refine AllL.cons rfl (fun K hK => ?_) AllL.nil
      go_simp
      refine hK.out _ _ (fun h => (h rfl).elim) (fun _ => ?_)
      clear hK K
      try simp only [Act.put, List.setIfInBounds_toArray, List.set_cons_zero, List.set_cons_succ]
      refine heldL_done (by kernel_rfl) ?_ _
      have HX9 := Lib.hid (HX6.out.trans hHeld)
      clear hHeld
      go_wp2_with fail
      go_roundw
      case rel => exact ⟨g + 1, by omega, by go_num, HX9.out⟩
      case measure => simp [intOf]; omega
    · obtain rfl : g = gk := by omega
      have e3 : ¬ ((g : Int) < (g : Int)) := by omega
      clear KNm KNd KSm KSk
      go_wp2_with fail
      go_loopw [10] (fun iv wr => ∃ j : Nat, j ≤ sn + 1 ∧ iv = .int .i64 j ∧ Ex w wr) (fun iv _ => sn + 1 - (intOf iv).toNat)
      case atStart => exact ⟨0, Nat.zero_le _, rfl, HX.out⟩
      case round =>
        clear HX
        obtain ⟨j, hj, rfl, hx⟩ := hrel
        have HX := Lib.hid hx
        have d3 := (CX.out wr hx).2.2.1
        clear hx
        by_cases hjl : j ≤ sn
        · have j1 : (j : Int) ≤ (sn : Int) := by omega
          have KA := Lib.hid (KOm.out wr HX.out j)
          have KB := Lib.hid (fun W1 x => KOd.out W1 x j)
          have HL := Lib.hid (HSL.out j)
          go_wp2_with fail
          refine KA.out.mono ?_
          rintro e w3 ⟨u1, rfl, r1, x1⟩
          have HR1 := Lib.hid r1
          have HX3 := Lib.hid (HX.out.trans x1)
          clear r1 x1
          go_wp2_with fail
          refine (KB.out w3 HX3.out).mono ?_
          rintro e w4 ⟨u2, rfl, r2, x2⟩
          have HR2 := Lib.hid r2
          have HR3 := Lib.hid (HR1.out.ex x2)
          have HX4 := Lib.hid (HX3.out.trans x2)
          clear r2 x2
          go_wp2_with fail
          refine (ints_same HL.out HR3.out HR2.out).mono ?_
          rintro e w5 ⟨rfl, x3⟩
          have HX5 := Lib.hid (HX4.out.trans x3)
          clear x3
          go_wp2_with fail
          go_roundw
          case rel => exact ⟨j + 1, by omega, by go_num, HX5.out⟩
          case measure => simp [intOf]; omega
        · obtain rfl : j = sn + 1 := by omega
          have j1 : ¬ ((sn : Int) + 1 ≤ (sn : Int)) := by omega
          have j2 : ¬ (((sn + 1 : Nat) : Int) ≤ (sn : Int)) := by omega
          have KA := Lib.hid (KRm.out wr HX.out)
          go_wp2_with fail
          refine KA.out.mono ?_
          rintro e w3 ⟨u1, rfl, r1, x1⟩
          have HR1 := Lib.hid (Rn.of r1)
          have HX3 := Lib.hid (HX.out.trans x1)
          clear r1 x1
          go_wp2_with fail
          refine (KRd.out w3 HX3.out).mono ?_
          rintro e w4 ⟨u2, rfl, r2, x2⟩
          have HR2 := Lib.hid (Rn.of r2)
          have HR3 := Lib.hid (HR1.out.ex x2)
          have HX4 := Lib.hid (HX3.out.trans x2)
          clear r2 x2
          go_wp2_with fail
          refine (ints_same HRL.out HR3.out HR2.out).mono ?_
          rintro e w5 ⟨rfl, x3⟩
          have HX5 := Lib.hid (HX4.out.trans x3)
          clear x3
          go_wp2
          go_ret
          exact ⟨rfl, HX5.out⟩

end Go.Proofs.YtmlobpapjfkbmaaGreat

/- told: what a law asks of the program first. -/
namespace Go.Proofs.YtmlobpapjfkbmaaGreat
open Go.RowKit
set_option linter.unusedVariables false
set_option maxRecDepth 20000
set_option linter.unusedSimpArgs false

theorem rdI_box {w : World} {b cap : Nat} {l : List C15.I4} (h : Box w b (C15.cells4 l).toArray 58) (hc : l.length ≤ cap) : C15.RdI w (.slice (some ⟨b, 0, none⟩) l.length cap) l :=
  .inr ⟨b, 0, cap, rfl, h.lt, hc, fun j u hj => by rw [Nat.zero_add, h.cell j, List.getElem?_toArray]; exact hj⟩
theorem rdP_box {w : World} {b cap : Nat} {F : Fns} {lv : Nat → Value} (h : Box w b ((List.range F.length).map lv).toArray 55) (hc : F.length ≤ cap) (hi : ∀ i (hi : i < F.length), C15.RdI w (lv i) F[i]) : C15.RdP w (.slice (some ⟨b, 0, none⟩) F.length cap) F :=
  .inr ⟨b, 0, cap, lv, rfl, h.lt, hc, fun i hl => ⟨by rw [Nat.zero_add, h.cell i, List.getElem?_toArray]; simp [hl], hi i hl⟩⟩
/-- Nothing is reached. -/
theorem rchL_nil {m : MS} (h : ∀ x ∈ rootsM m, x = 0) : rchL m = [] := by
  classical
  have : ∀ i, ¬ Rch m i := fun i r => by
    induction r with
    | root h1 h2 => exact h2 (h _ h1)
    | step _ _ _ ih => exact ih
  unfold rchL
  rw [List.filter_eq_nil_iff]
  intro i _
  simp [this i]

def Ftold : Fns := [[(1, 1, 0, 0)]]
theorem may_told : C15.mayI ((0 : Nat) : Int) Ftold = 0 := by decide
theorem told_1 : cmV (tells Ftold (m0 0) 0) = .agg #[.int .i64 0, .int .i64 0, .int .i64 0, .int .i64 1, .int .i64 1, .bool false] := rfl
theorem told_2 : cmV (tells Ftold (stepM Ftold (m0 0) 0) 0) = .agg #[.int .i64 0, .int .i64 0, .int .i64 1, .int .i64 0, .int .i64 0, .bool false] := rfl

set_option maxHeartbeats 6400000 in
theorem told_any (w : World) : Calls Tryz.prog 6 #[] w fun e w' => e = .returned (.bool true) ∧ Ex w w' := by
  have b1 : Box ((w.alloc (.cells #[.int .i64 1, .int .i64 1, .int .i64 0, .int .i64 0] 58)).alloc (.cells #[.slice (some ⟨w.heap.size, 0, none⟩) 1 1] 55)) w.heap.size #[.int .i64 1, .int .i64 1, .int .i64 0, .int .i64 0] 58 := (Box.fresh w _ _).ex (Ex.made _ _)
  have b2 : Box ((w.alloc (.cells #[.int .i64 1, .int .i64 1, .int .i64 0, .int .i64 0] 58)).alloc (.cells #[.slice (some ⟨w.heap.size, 0, none⟩) 1 1] 55)) (w.heap.size + 1) #[.slice (some ⟨w.heap.size, 0, none⟩) 1 1] 55 := by
    have := Box.fresh (w.alloc (.cells #[.int .i64 1, .int .i64 1, .int .i64 0, .int .i64 0] 58)) #[.slice (some ⟨w.heap.size, 0, none⟩) 1 1] 55
    simpa using this
  have x0 : Ex w ((w.alloc (.cells #[.int .i64 1, .int .i64 1, .int .i64 0, .int .i64 0] 58)).alloc (.cells #[.slice (some ⟨w.heap.size, 0, none⟩) 1 1] 55)) := (Ex.made _ _).trans (Ex.made _ _)
  go_enter Tryz.func6, Tryz.ntmps6
  go_wp2_with fail
  generalize ((w.alloc (.cells #[.int .i64 1, .int .i64 1, .int .i64 0, .int .i64 0] 58)).alloc (.cells #[.slice (some ⟨w.heap.size, 0, none⟩) 1 1] 55)) = W1 at *
  have hP : C15.RdP W1 (.slice (some ⟨w.heap.size + 1, 0, none⟩) 1 1) Ftold := rdP_box (F := Ftold) (cap := 1) (lv := fun _ => .slice (some ⟨w.heap.size, 0, none⟩) 1 1) b2 (by decide) (fun i hi => by
    obtain rfl : i = 0 := by have : i < 1 := hi; omega
    exact rdI_box (l := [(1, 1, 0, 0)]) (cap := 1) b1 (by decide))
  have HX := Lib.hid x0
  have HS : Hid (w.heap.size ≤ W1.heap.size) := Lib.hid x0.size
  refine (new_model (gn := 0) hP (Ex.refl _) may_told).mono ?_
  rintro e w1 ⟨mb, rfl, hn⟩
  obtain ⟨h1, x1⟩ := new_mo hn (Nat.le_refl _) may_told (inv_m0 (by decide))
  have HM := Lib.hid h1
  have HX1 := Lib.hid (HX.out.trans x1)
  clear hn h1 x1 x0 b1 b2 hP HX
  go_wp2_with fail
  refine (new_bad (w := w1) (g := 0) (fv := .slice none 0 0) (F := []) (.inl ⟨⟨_, _, rfl⟩, rfl⟩) (by decide)).mono ?_
  rintro e w2 ⟨rfl, x2⟩
  have HM2 := Lib.hid (HM.out.ex x2)
  have HX2 := Lib.hid (HX1.out.trans x2)
  clear HM HX1 x2
  go_wp2_with fail
  refine (mo_do HM2.out (by omega) (by decide) (g := 0) (by decide) rfl).mono ?_
  rintro e w3 ⟨rfl, h3, t3⟩
  rw [told_1]
  have HM3 := Lib.hid h3
  have HX3 := Lib.hid (HX2.out.chg (fun i => W1.heap.size ≤ i) |>.trans (t3.weak (fun i _ hi => hi.1) : Chg (fun i => W1.heap.size ≤ i) w2 w3) (fun _ _ h => h))
  clear h3 t3 HM2
  go_wp2_with fail
  have kb := Box.fresh w3 #[.int .i64 0, .int .i64 0, .int .i64 0, .int .i64 1, .int .i64 1, .bool false] 50
  have kx := Ex.made w3 (.cells #[.int .i64 0, .int .i64 0, .int .i64 0, .int .i64 1, .int .i64 1, .bool false] 50)
  have hs3 : w3.heap.size < (w3.alloc (.cells #[.int .i64 0, .int .i64 0, .int .i64 0, .int .i64 1, .int .i64 1, .bool false] 50)).heap.size := by simp
  generalize w3.alloc (.cells #[.int .i64 0, .int .i64 0, .int .i64 0, .int .i64 1, .int .i64 1, .bool false] 50) = W4 at *
  obtain ⟨c1, hc1⟩ : ∃ k, w3.heap.size = k := ⟨_, rfl⟩
  rw [hc1] at kb hs3 ⊢
  have HM4 := Lib.hid (HM3.out.own kx (fun i => i = c1) (fun i hi => .inr (by subst hi; omega)))
  have HX4 := Lib.hid (HX3.out.trans (kx.chg (fun i => W1.heap.size ≤ i)) (fun _ _ h => h))
  have KB4 := Lib.hid kb
  clear HM3 HX3 kb kx hs3 hc1
  refine (mo_do HM4.out (by omega) (by decide) (g := 0) (by decide) rfl).mono ?_
  rintro e w5 ⟨rfl, h5, t5⟩
  rw [told_2]
  have HM5 := Lib.hid h5
  have KB5 := Lib.hid (t5.box KB4.out (.inr rfl))
  have HX5 := Lib.hid (HX4.out.trans (t5.weak (fun i _ hi => hi.1) : Chg (fun i => W1.heap.size ≤ i) _ w5) (fun _ _ h => h))
  clear h5 t5 HM4 HX4 KB4
  go_wp2_with fail
  have kb := Box.fresh w5 #[.int .i64 0, .int .i64 0, .int .i64 1, .int .i64 0, .int .i64 0, .bool false] 50
  have kx := Ex.made w5 (.cells #[.int .i64 0, .int .i64 0, .int .i64 1, .int .i64 0, .int .i64 0, .bool false] 50)
  have hs3 : w5.heap.size < (w5.alloc (.cells #[.int .i64 0, .int .i64 0, .int .i64 1, .int .i64 0, .int .i64 0, .bool false] 50)).heap.size := by simp
  generalize w5.alloc (.cells #[.int .i64 0, .int .i64 0, .int .i64 1, .int .i64 0, .int .i64 0, .bool false] 50) = W6 at *
  obtain ⟨c2, hc1⟩ : ∃ k, w5.heap.size = k := ⟨_, rfl⟩
  rw [hc1] at kb hs3 ⊢
  have HM6 := Lib.hid (HM5.out.own kx (fun i => i = c1 ∨ i = c2) (fun i hi => hi.imp id (fun e => by subst e; omega)))
  have HX6 := Lib.hid (HX5.out.trans (kx.chg (fun i => W1.heap.size ≤ i)) (fun _ _ h => h))
  have KB6 := Lib.hid kb
  have KA6 := Lib.hid (KB5.out.ex kx)
  clear HM5 HX5 kb kx hs3 hc1 KB5
  refine (mo_cant HM6.out (g := 0) (by decide) (by decide)).mono ?_
  rintro e w7 ⟨rfl, x7⟩
  have HM7 := Lib.hid (HM6.out.ex x7)
  have KA7 := Lib.hid (KA6.out.ex x7)
  have KB7 := Lib.hid (KB6.out.ex x7)
  have HX7 := Lib.hid (HX6.out.trans (x7.chg (fun i => W1.heap.size ≤ i)) (fun _ _ h => h))
  clear HM6 KA6 KB6 HX6 x7
  unfold noCm
  go_upto_region 8 with fail
  have x8 := Ex.made w7 (.cells #[.int .i64 0, .int .i64 0, .int .i64 0, .int .i64 0, .int .i64 0, .bool false] 50)
  generalize w7.alloc (.cells #[.int .i64 0, .int .i64 0, .int .i64 0, .int .i64 0, .int .i64 0, .bool false] 50) = W8 at *
  have HM8 := Lib.hid (HM7.out.ex x8)
  have ka := KA7.out.ex x8
  have kb := KB7.out.ex x8
  have HX8 := Lib.hid (HX7.out.trans (x8.chg (fun i => W1.heap.size ≤ i)) (fun _ _ h => h))
  have a0 : W8.cell? ⟨c1, 0, none⟩ = some (.int .i64 0) := ka.cell 0
  have a1 : W8.cell? ⟨c1, 1, none⟩ = some (.int .i64 0) := ka.cell 1
  have a2 : W8.cell? ⟨c1, 2, none⟩ = some (.int .i64 0) := ka.cell 2
  have a3 : W8.cell? ⟨c1, 3, none⟩ = some (.int .i64 1) := ka.cell 3
  have a4 : W8.cell? ⟨c1, 4, none⟩ = some (.int .i64 1) := ka.cell 4
  have a5 : W8.cell? ⟨c1, 5, none⟩ = some (.bool false) := ka.cell 5
  have b0 : W8.cell? ⟨c2, 0, none⟩ = some (.int .i64 0) := kb.cell 0
  have b1 : W8.cell? ⟨c2, 1, none⟩ = some (.int .i64 0) := kb.cell 1
  have b2 : W8.cell? ⟨c2, 2, none⟩ = some (.int .i64 1) := kb.cell 2
  have b3 : W8.cell? ⟨c2, 3, none⟩ = some (.int .i64 0) := kb.cell 3
  have b4 : W8.cell? ⟨c2, 4, none⟩ = some (.int .i64 0) := kb.cell 4
  have b5 : W8.cell? ⟨c2, 5, none⟩ = some (.bool false) := kb.cell 5
  clear HM7 KA7 KB7 HX7 x8 ka kb
  go_wp2_with fail
  refine (mo_ids HM8.out (by omega)).mono ?_
  rintro e w9 ⟨rfl, rfl⟩
  rw [show (((stepM Ftold (stepM Ftold (m0 0) 0) 0).slots.length - 1 : Nat) : Int) = 1 from rfl]
  go_wp2_with fail
  refine (mo_reach HM8.out (by omega)).mono ?_
  rintro e w9 ⟨u, rfl, hrow, x9⟩
  rw [rchL_nil (m := stepM Ftold (stepM Ftold (m0 0) 0) 0) (fun x hx => by have e : rootsM (stepM Ftold (stepM Ftold (m0 0) 0) 0) = [] := rfl; rw [e] at hx; cases hx)] at hrow
  obtain ⟨ua, uc, hu⟩ := T13.row_val hrow
  have hu : u = .slice ua 0 uc := hu
  subst hu
  have HM9 := Lib.hid (HM8.out.ex x9)
  have HX9 := Lib.hid (HX8.out.trans (x9.chg (fun i => W1.heap.size ≤ i)) (fun _ _ h => h))
  clear HM8 HX8 x9 hrow
  go_wp2_with fail
  refine (mo_state HM9.out 0 5 rfl).mono ?_
  rintro e w10 ⟨rfl, rfl⟩
  go_wp2_with fail
  go_ret
  exact ⟨rfl, HX9.out.below (Nat.le_refl _) (fun i hi => Nat.le_trans HS.out hi)⟩

end Go.Proofs.YtmlobpapjfkbmaaGreat

