/- Package code: Decode: the plain answer; states; the end. -/
import Derived.Test.YtmajnjbjoagihaaCatch15
namespace Go.Proofs.Ytmajnjbjoagihaa
open Go.RowKit
set_option linter.unusedVariables false
set_option linter.unusedSimpArgs false

/-- Instructions, so many; the place behind them. -/
def instsA (g n s : Int) (bs : List Int) : Nat → Nat → List I4 → Except Nat (List I4 × Nat)
  | 0, a, acc => .ok (acc, a)
  | c + 1, a, acc => match instD g n s bs a with
    | .error p => .error p
    | .ok x => instsA g n s bs c (a + 4) (acc ++ [x])
/-- Functions, so many. -/
def funcsA (g n : Int) (bs : List Int) : Nat → Nat → List (List I4) → Except Nat (List (List I4) × Nat)
  | 0, a, acc => .ok (acc, a)
  | c + 1, a, acc => if ¬ a < bs.length then .error bs.length else if bs.getD a 0 < 1 ∨ 64 < bs.getD a 0 then .error a else
    match instsA g n (bs.getD a 0) bs (bs.getD a 0).toNat (a + 1) [] with
    | .error p => .error p
    | .ok (l, a') => funcsA g n bs c a' (acc ++ [l])
/-- The end. -/
def finD (bs : List Int) (g : Int) : Except Nat (List (List I4) × Nat) → Except Nat (Int × List (List I4))
  | .error p => .error p
  | .ok (F, a) => if a < bs.length then .error a else .ok (g, F)
/-- A program, or the place of the first byte that is wrong. -/
def decD (bs : List Int) : Except Nat (Int × List (List I4)) :=
  if ¬ 0 < bs.length then .error bs.length else if bs.getD 0 0 < 1 ∨ 16 < bs.getD 0 0 then .error 0 else
  if ¬ 1 < bs.length then .error bs.length else if bs.getD 1 0 < 0 ∨ 32 < bs.getD 1 0 then .error 1 else
  finD bs (bs.getD 1 0) (funcsA (bs.getD 1 0) (bs.getD 0 0) bs (bs.getD 0 0).toNat 2 [])

/-- A slice of instructions is read. -/
def cells4 : List I4 → List Value
  | [] => []
  | x :: l => .int .i64 x.1 :: .int .i64 x.2.1 :: .int .i64 x.2.2.1 :: .int .i64 x.2.2.2 :: cells4 l
def RdI (w : World) (v : Value) (l : List I4) : Prop :=
  ((∃ a c, v = .slice a 0 c) ∧ l = []) ∨ ∃ g o cap, v = .slice (some ⟨g, o, none⟩) l.length cap ∧ g < w.heap.size ∧ l.length ≤ cap ∧ ∀ j u, (cells4 l)[j]? = some u → w.cell? ⟨g, o + j, none⟩ = some u
def RdP (w : World) (v : Value) (F : List (List I4)) : Prop :=
  ((∃ a c, v = .slice a 0 c) ∧ F = []) ∨ ∃ g o cap, ∃ lv : Nat → Value, v = .slice (some ⟨g, o, none⟩) F.length cap ∧ g < w.heap.size ∧ F.length ≤ cap ∧ ∀ i (h : i < F.length), w.cell? ⟨g, o + i, none⟩ = some (lv i) ∧ RdI w (lv i) F[i]

def DecDone (w : World) (r : Except Nat (Int × List (List I4))) (e : Ending) (w' : World) : Prop :=
  match r with
  | .error p => e = .returned (.tuple #[.agg #[.int .i64 0, .slice none 0 0], .int .i64 6, .int .i64 (p : Int)]) ∧ Ex w w'
  | .ok x => (∃ fv, e = .returned (.tuple #[.agg #[.int .i64 x.1, fv], .int .i64 0, .int .i64 0]) ∧ RdP w' fv x.2) ∧ Ex w w'

/-- The deferred call. -/
def defd (H : Nat) : List Deferred := [{ target := Target.fn (Fn.func 18) #[.pointer (some ⟨H, 0, none⟩), .pointer (some ⟨H + 1, 0, none⟩), .pointer (some ⟨H + 1 + 1, 0, none⟩)], args := #[] }]

set_option maxHeartbeats 1600000 in
theorem fin_bad {w W : World} {p : Nat} {x0 x1 x2 x3 : Value} (tmps : Array Value)
    (t2 : tmps.getD 2 undef = .pointer (some ⟨w.heap.size, 0, none⟩)) (t3 : tmps.getD 3 undef = .pointer (some ⟨w.heap.size + 1, 0, none⟩)) (t4 : tmps.getD 4 undef = .pointer (some ⟨w.heap.size + 1 + 1, 0, none⟩))
    (h0 : Box W w.heap.size #[x0, x1] 24) (h1 : Box W (w.heap.size + 1) #[x2] 3) (h2 : Box W (w.heap.size + 1 + 1) #[x3] 3) (hx : Ex w W) :
    bodyPostD Try.prog Try.f11 (DecDone w (.error p)) (Exit.panic [{ v := badV p, recovered := false }]) { tmps := tmps, defers := defd w.heap.size } W := by
  refine leaves_cons (f := 18) (args := #[.pointer (some ⟨w.heap.size, 0, none⟩), .pointer (some ⟨w.heap.size + 1, 0, none⟩), .pointer (some ⟨w.heap.size + 1 + 1, 0, none⟩)]) (by simp) (by simp [go_sem]) ?_
  refine (catch_bad (n := p) [] h0 h1 h2 (by omega) (by omega) (by omega)).mono ?_
  rintro e u' w'' ⟨rfl, rfl, b0, b1, b2, hc⟩
  have c0 : w''.cell? ⟨w.heap.size, 0, none⟩ = some (.int .i64 0) := b0.cell 0
  have c1 : w''.cell? ⟨w.heap.size, 1, none⟩ = some (.slice none 0 0) := b0.cell 1
  have c2 : w''.cell? ⟨w.heap.size + 1, 0, none⟩ = some (.int .i64 6) := b1.cell 0
  have c3 : w''.cell? ⟨w.heap.size + 1 + 1, 0, none⟩ = some (.int .i64 (p : Int)) := b2.cell 0
  have hfin : DecDone w (.error p) (.returned (.tuple #[.agg #[.int .i64 0, .slice none 0 0], .int .i64 6, .int .i64 (p : Int)])) w'' := ⟨rfl, Below.trans hx (hc.below hx.size (fun i hi => by omega))⟩
  have HF := Lib.hid hfin
  clear hfin hc b0 b1 b2 h0 h1 h2
  have s2 : tmps[2]?.getD undef = .pointer (some ⟨w.heap.size, 0, none⟩) := by simpa using t2
  have s3 : tmps[3]?.getD undef = .pointer (some ⟨w.heap.size + 1, 0, none⟩) := by simpa using t3
  have s4 : tmps[4]?.getD undef = .pointer (some ⟨w.heap.size + 1 + 1, 0, none⟩) := by simpa using t4
  simp [Leaves, settle, results, Try.results11, go_sem, s2, s3, s4, c0, c1, c2, c3]
  exact HF.out

set_option maxHeartbeats 1600000 in
theorem fin_ok {w W : World} {g : Int} {fv : Value} {F : List (List I4)} {r : Except Nat (Int × List (List I4))} (hr : r = .ok (g, F)) (tmps : Array Value)
    (t2 : tmps.getD 2 undef = .pointer (some ⟨w.heap.size, 0, none⟩)) (t3 : tmps.getD 3 undef = .pointer (some ⟨w.heap.size + 1, 0, none⟩)) (t4 : tmps.getD 4 undef = .pointer (some ⟨w.heap.size + 1 + 1, 0, none⟩))
    (h0 : Box W w.heap.size #[.int .i64 g, fv] 24) (h1 : Box W (w.heap.size + 1) #[.int .i64 0] 3) (h2 : Box W (w.heap.size + 1 + 1) #[.int .i64 0] 3) (hx : Ex w W) (hf : ∀ W', Ex W W' → RdP W' fv F) :
    bodyPostD Try.prog Try.f11 (DecDone w r) Exit.normal { tmps := tmps, defers := defd w.heap.size } W := by
  subst hr
  refine leaves_cons (f := 18) (args := #[.pointer (some ⟨w.heap.size, 0, none⟩), .pointer (some ⟨w.heap.size + 1, 0, none⟩), .pointer (some ⟨w.heap.size + 1 + 1, 0, none⟩)]) (by simp) (by simp [go_sem]) ?_
  refine (catch_idle _ _ _ W).mono ?_
  rintro e u' w'' ⟨rfl, rfl, hc⟩
  have b0 := h0.ex hc
  have b1 := h1.ex hc
  have b2 := h2.ex hc
  have c0 : w''.cell? ⟨w.heap.size, 0, none⟩ = some (.int .i64 g) := b0.cell 0
  have c1 : w''.cell? ⟨w.heap.size, 1, none⟩ = some fv := b0.cell 1
  have c2 : w''.cell? ⟨w.heap.size + 1, 0, none⟩ = some (.int .i64 0) := b1.cell 0
  have c3 : w''.cell? ⟨w.heap.size + 1 + 1, 0, none⟩ = some (.int .i64 0) := b2.cell 0
  have hfin : DecDone w (.ok (g, F)) (.returned (.tuple #[.agg #[.int .i64 g, fv], .int .i64 0, .int .i64 0])) w'' := ⟨⟨fv, rfl, hf w'' hc⟩, hx.trans hc⟩
  have HF := Lib.hid hfin
  clear hfin hc b0 b1 b2 h0 h1 h2 hf
  have s2 : tmps[2]?.getD undef = .pointer (some ⟨w.heap.size, 0, none⟩) := by simpa using t2
  have s3 : tmps[3]?.getD undef = .pointer (some ⟨w.heap.size + 1, 0, none⟩) := by simpa using t3
  have s4 : tmps[4]?.getD undef = .pointer (some ⟨w.heap.size + 1 + 1, 0, none⟩) := by simpa using t4
  simp [Leaves, settle, results, Try.results11, go_sem, s2, s3, s4, c0, c1, c2, c3]
  exact HF.out

theorem cells4_length : ∀ l, (cells4 l).length = l.length * 4
  | [] => rfl
  | p :: l => by simp [cells4, cells4_length l]; omega
theorem cells4_append : ∀ a b, cells4 (a ++ b) = cells4 a ++ cells4 b
  | [], b => rfl
  | p :: l, b => by simp [cells4, cells4_append l b]

/-- A row of instructions of the call's own, in another block than o. -/
def IRow (w : World) (base : Nat) (o : Option Nat) (lv : Value) (l : List I4) : Prop := w.ownsRow base 45 4 lv l.length (cells4 l) ∧ ∀ g, lv.ownBlock = some g → o ≠ some g
/-- A row of such rows. -/
def PRow (w : World) (base : Nat) (fv : Value) (acc : List (List I4)) : Prop := ∃ lvs : List Value, lvs.length = acc.length ∧ w.ownsRow base 30 1 fv acc.length lvs ∧ ∀ i (h : i < acc.length), IRow w base fv.ownBlock (lvs.getD i undef) acc[i]

theorem row_base {w : World} {base : Nat} {e : TypeId} {size : Nat} {v : Value} {n : Nat} {xs : List Value} (h : w.ownsRow base e size v n xs) (i : Nat) (hi : v.ownBlock = some i) : base ≤ i ∧ i < w.heap.size := by
  rcases row_shape h with ⟨h1, -, -⟩ | ⟨g, cap, h1, h2, h3, -⟩
  · subst h1; cases hi
  · subst h1; cases hi; exact ⟨h2, h3⟩
theorem IRow.chg {F : Nat → Prop} {w w' : World} {base : Nat} {o : Option Nat} {lv : Value} {l : List I4} (h : IRow w base o lv l) (x : Chg F w w') (hF : ∀ g, lv.ownBlock = some g → ¬ F g) : IRow w' base o lv l := ⟨row_chg h.1 x hF, h.2⟩
theorem PRow.chg {F : Nat → Prop} {w w' : World} {base : Nat} {fv : Value} {acc : List (List I4)} (h : PRow w base fv acc) (x : Chg F w w') (hF : ∀ g, base ≤ g → g < w.heap.size → ¬ F g) : PRow w' base fv acc := by
  obtain ⟨lvs, h1, h2, h3⟩ := h
  refine ⟨lvs, h1, row_chg h2 x (fun g hg => hF g (row_base h2 g hg).1 (row_base h2 g hg).2), fun i hi => (h3 i hi).chg x (fun g hg => ?_)⟩
  have := row_base (h3 i hi).1 g hg
  exact hF g this.1 this.2
theorem PRow.nil (w : World) (base : Nat) : PRow w base (.slice none 0 0) [] := ⟨[], rfl, World.ownsRow_nil _ _ _ _, fun i hi => absurd hi (Nat.not_lt_zero i)⟩

theorem RdI.of {w : World} {base : Nat} {lv : Value} {l : List I4} (h : w.ownsRow base 45 4 lv l.length (cells4 l)) : RdI w lv l := by
  rcases row_shape h with ⟨h1, h2, -⟩ | ⟨g, cap, h1, -, h3, h4, -⟩
  · exact .inl ⟨⟨_, _, h1⟩, List.eq_nil_of_length_eq_zero h2⟩
  · subst h1
    refine .inr ⟨g, 0, cap, rfl, h3, h4, fun j u hj => ?_⟩
    have hlt : j < l.length * 4 := by
      have := (List.getElem?_eq_some_iff.1 hj).1
      rwa [cells4_length] at this
    rw [Nat.zero_add, World.ownsRow.cellAt h j hlt]
    exact hj
theorem RdP.of {w : World} {base : Nat} {fv : Value} {acc : List (List I4)} (h : PRow w base fv acc) : RdP w fv acc := by
  obtain ⟨lvs, h1, h2, h3⟩ := h
  rcases row_shape h2 with ⟨k1, k2, -⟩ | ⟨g, cap, k1, -, k3, k4, -⟩
  · exact .inl ⟨⟨_, _, k1⟩, List.eq_nil_of_length_eq_zero k2⟩
  · subst k1
    refine .inr ⟨g, 0, cap, fun i => lvs.getD i undef, rfl, k3, k4, fun i hi => ⟨?_, RdI.of (h3 i hi).1⟩⟩
    rw [Nat.zero_add, World.ownsRow.cellAt h2 i (by omega)]
    simp [h1, hi]

/-- One row more. -/
theorem PRow.snoc {w w1 : World} {base cap g : Nat} {fv lv : Value} {acc : List (List I4)} {l : List I4} (h : PRow w base fv acc) (hl : IRow w base fv.ownBlock lv l)
    (hown : ∀ lvs : List Value, lvs.length = acc.length → w.ownsRow base 30 1 fv acc.length lvs → w1.ownsRow base 30 1 (.slice (some ⟨g, 0, none⟩) (acc.length + 1) cap) (acc.length + 1) (lvs ++ [lv]))
    (hc : Chg (fun i => fv.ownBlock = some i) w w1) (hor : fv.ownBlock = some g ∨ w.heap.size ≤ g) : PRow w1 base (.slice (some ⟨g, 0, none⟩) (acc.length + 1) cap) (acc ++ [l]) := by
  obtain ⟨lvs, h1, h2, h3⟩ := h
  have key : ∀ lv' l', IRow w base fv.ownBlock lv' l' → IRow w1 base (some g) lv' l' := by
    intro lv' l' k
    refine ⟨row_chg k.1 hc (fun j hj e => k.2 j hj e), ?_⟩
    intro j hj e
    cases e
    rcases hor with e | e
    · exact k.2 g hj e
    · have := row_base k.1 g hj
      omega
  refine ⟨lvs ++ [lv], by simp [h1], by rw [List.length_append]; exact hown lvs h1 h2, fun i hi => ?_⟩
  by_cases hlt : i < acc.length
  · have e1 : (lvs ++ [lv]).getD i undef = lvs.getD i undef := by simp [List.getD, List.getElem?_append, h1, hlt]
    have e2 : (acc ++ [l])[i] = acc[i] := List.getElem_append_left hlt
    rw [e1, e2]
    exact key _ _ (h3 i hlt)
  · have hi' : i = acc.length := by simp at hi; omega
    subst hi'
    have e1 : (lvs ++ [lv]).getD acc.length undef = lv := by rw [← h1]; simp
    rw [e1]
    simp only [List.getElem_concat_length]
    exact key _ _ hl

theorem row_weak' {w : World} {b b' : Nat} {e : TypeId} {size : Nat} {v : Value} {n : Nat} {xs : List Value} (h : w.ownsRow b e size v n xs) (hb : b' ≤ b) : w.ownsRow b' e size v n xs := by
  refine ⟨h.1, ?_⟩
  rcases h.2 with ⟨h1, h2⟩ | ⟨g, cap, cur, rfl, h2, h3, h4, h5, h6⟩
  · exact .inl ⟨h1, h2⟩
  · exact .inr ⟨g, cap, cur, rfl, by omega, h3, h4, h5, h6⟩
/-- A function that is whole. -/
theorem funcsA_step {g n s : Int} {bs : List Int} {c k j a a' : Nat} {acc : List (List I4)} {l : List I4} {r : Except Nat (List (List I4) × Nat)} (hr : funcsA g n bs c a acc = r) (hk : c = k + 1) (h1 : a < bs.length) (hs : bs.getD a 0 = s) (s1 : 1 ≤ s) (s2 : s ≤ 64)
    (hi : instsA g n s bs (s.toNat - j) a' l = instsA g n s bs s.toNat (a + 1) []) (hj : (j : Int) = s) : funcsA g n bs k a' (acc ++ [l]) = r := by
  subst hj
  rw [show (j : Int).toNat - j = 0 by omega] at hi
  subst hk
  rw [funcsA, if_neg (by omega), hs, if_neg (by omega), ← hi] at hr
  simpa [instsA] using hr

/-- One row more, onto a row that is named. -/
theorem PRow.snoc2 {w w1 : World} {base cap g : Nat} {fv lv : Value} {acc : List (List I4)} {l : List I4} {lvs : List Value} (h1 : lvs.length = acc.length) (h2 : w.ownsRow base 30 1 fv acc.length lvs) (h3 : ∀ i (h : i < acc.length), IRow w base fv.ownBlock (lvs.getD i undef) acc[i])
    (hl : IRow w base fv.ownBlock lv l) (hown : w1.ownsRow base 30 1 (.slice (some ⟨g, 0, none⟩) (acc.length + 1) cap) (acc.length + 1) (lvs ++ [lv]))
    (hc : Chg (fun i => fv.ownBlock = some i) w w1) (hor : fv.ownBlock = some g ∨ w.heap.size ≤ g) : PRow w1 base (.slice (some ⟨g, 0, none⟩) (acc.length + 1) cap) (acc ++ [l]) := by
  have key : ∀ lv' l', IRow w base fv.ownBlock lv' l' → IRow w1 base (some g) lv' l' := by
    intro lv' l' k
    refine ⟨row_chg k.1 hc (fun j hj e => k.2 j hj e), ?_⟩
    intro j hj e
    cases e
    rcases hor with e | e
    · exact k.2 g hj e
    · have := row_base k.1 g hj
      omega
  refine ⟨lvs ++ [lv], by simp [h1], by rw [List.length_append]; exact hown, fun i hi => ?_⟩
  by_cases hlt : i < acc.length
  · have e1 : (lvs ++ [lv]).getD i undef = lvs.getD i undef := by simp [List.getD, List.getElem?_append, h1, hlt]
    have e2 : (acc ++ [l])[i] = acc[i] := List.getElem_append_left hlt
    rw [e1, e2]
    exact key _ _ (h3 i hlt)
  · have hi' : i = acc.length := by simp at hi; omega
    subst hi'
    have e1 : (lvs ++ [lv]).getD acc.length undef = lv := by rw [← h1]; simp
    rw [e1]
    simp only [List.getElem_concat_length]
    exact key _ _ hl

/-- The slots of the results, and what is deferred. -/
def Slots (H : Nat) (a : Act) : Prop := a.tmps.getD 2 undef = .pointer (some ⟨H, 0, none⟩) ∧ a.tmps.getD 3 undef = .pointer (some ⟨H + 1, 0, none⟩) ∧ a.tmps.getD 4 undef = .pointer (some ⟨H + 1 + 1, 0, none⟩) ∧ a.defers = defd H
theorem slots_put {H d : Nat} {a : Act} {v : Value} (h : Slots H (a.put (some d) v)) (hd : 4 < d) : Slots H a := by
  unfold Slots at *
  simp [Act.put, Array.getElem?_setIfInBounds, show d ≠ 2 by omega, show d ≠ 3 by omega, show d ≠ 4 by omega] at h
  simpa using h
/-- A post that tells of a panic what it needs. -/
def PanQ (H : Nat) (PP : List PanicEntry → World → Prop) (Q : Exit → Act → World → Prop) : Exit → Act → World → Prop
  | .panic c, a, w => PP c w ∧ Slots H a
  | e, a, w => Q e a w
theorem panq_normal {H : Nat} {PP : List PanicEntry → World → Prop} {Q : Exit → Act → World → Prop} {a : Act} {w : World} (h : Q .normal a w) : PanQ H PP Q .normal a w := h
theorem wp_pan {P : Program} {c : Code} {Q : Exit → Act → World → Prop} {a : Act} {W : World} (H : Nat) (PP : List PanicEntry → World → Prop) (himp : ∀ c a w, PP c w → Slots H a → Q (.panic c) a w) (h : c.wp P (PanQ H PP Q) a W) : c.wp P Q a W :=
  Code.wp_mono (fun e a w k => by
    cases e
    case panic c => exact himp c a w k.1 k.2
    all_goals exact k) h

theorem info_inst : (Try.prog.info? 45).map (fun i => (i.zero, i.size, i.bytes)) = some (some (.agg #[.int .i64 0, .int .i64 0, .int .i64 0, .int .i64 0]), 4, 32) := by kernel_rfl
theorem info_row : (Try.prog.info? 30).map (fun i => (i.zero, i.size, i.bytes)) = some (some (.slice none 0 0), 1, 24) := by kernel_rfl
theorem fin_bad' {w W : World} {p : Nat} {x0 x1 x2 x3 : Value} {r : Except Nat (Int × List (List I4))} (hr : r = .error p) (tmps : Array Value)
    (t2 : tmps.getD 2 undef = .pointer (some ⟨w.heap.size, 0, none⟩)) (t3 : tmps.getD 3 undef = .pointer (some ⟨w.heap.size + 1, 0, none⟩)) (t4 : tmps.getD 4 undef = .pointer (some ⟨w.heap.size + 1 + 1, 0, none⟩))
    (h0 : Box W w.heap.size #[x0, x1] 24) (h1 : Box W (w.heap.size + 1) #[x2] 3) (h2 : Box W (w.heap.size + 1 + 1) #[x3] 3) (hx : Ex w W) :
    bodyPostD Try.prog Try.f11 (DecDone w r) (Exit.panic [{ v := badV p, recovered := false }]) { tmps := tmps, defers := defd w.heap.size } W := by
  subst hr
  exact fin_bad tmps t2 t3 t4 h0 h1 h2 hx
theorem four_new (w : World) (a b c d : Value) (t : TypeId) : ∀ (j : Nat) (u : Value), [a, b, c, d][j]? = some u → (w.alloc (.cells #[a, b, c, d] t)).cell? ((⟨w.heap.size, 0, none⟩ : Addr).add j) = some u := by
  intro j u hj
  have hb : Box (w.alloc (.cells #[a, b, c, d] t)) w.heap.size #[a, b, c, d] t := Box.fresh w _ t
  rw [show (⟨w.heap.size, 0, none⟩ : Addr).add j = ⟨w.heap.size, j, none⟩ by simp [Addr.add]; exact fun h => h.symm, hb.cell j]
  simpa using hj
theorem instF_le {g n s : Int} {bs : List Int} {a : Nat} {x : I4} : ∀ f k, instF g n s bs a (f + 1) k = .ok x → a + (k + f) < bs.length
  | f, k, h => by
    rw [instF] at h
    split at h
    · cases h
    · split at h
      · cases h
      · match f, h with
        | 0, h => omega
        | f + 1, h => have := instF_le f (k + 1) h; omega
theorem instD_le {g n s : Int} {bs : List Int} {a : Nat} {x : I4} (h : instD g n s bs a = .ok x) : a + 4 ≤ bs.length := by
  have := instF_le 3 0 h
  omega
theorem cells4_one (x : I4) : cells4 [x] = [.int .i64 x.1, .int .i64 x.2.1, .int .i64 x.2.2.1, .int .i64 x.2.2.2] := rfl

/-- Decode's state: globals g, functions fv, the reader at a. -/
structure DS (w wr : World) (v : Value) (bs : List Int) (g : Int) (fv : Value) (a : Nat) : Prop where
  p : Box wr w.heap.size #[.int .i64 g, fv] 24
  e : Box wr (w.heap.size + 1) #[.int .i64 0] 3
  t : Box wr (w.heap.size + 1 + 1) #[.int .i64 0] 3
  r : Box wr (w.heap.size + 1 + 1 + 1) #[v, .int .i64 (a : Int)] 52
  b : Bs wr v bs
  x : Ex w wr
theorem DS.ex {w wr w2 : World} {v : Value} {bs : List Int} {g : Int} {fv : Value} {a : Nat} (h : DS w wr v bs g fv a) (x : Ex wr w2) : DS w w2 v bs g fv a :=
  ⟨h.p.ex x, h.e.ex x, h.t.ex x, h.r.ex x, h.b.ex x, h.x.trans x⟩
theorem DS.next {w wr w2 : World} {g' o cap : Nat} {bs : List Int} {g : Int} {fv : Value} {a a2 : Nat} (h : DS w wr (.slice (some ⟨g', o, none⟩) bs.length cap) bs g fv a) (hg : g' < w.heap.size) (hb : Box w2 (w.heap.size + 1 + 1 + 1) #[.slice (some ⟨g', o, none⟩) bs.length cap, .int .i64 (a2 : Int)] 52) (hc : Chg (fun i => i = w.heap.size + 1 + 1 + 1) wr w2) :
    DS w w2 (.slice (some ⟨g', o, none⟩) bs.length cap) bs g fv a2 :=
  ⟨h.p.chg hc (by omega), h.e.chg hc (by omega), h.t.chg hc (by omega), hb, h.b.chg hc (by omega), Below.trans h.x (hc.below h.x.size (fun i hi => by omega))⟩
theorem DS.chg {F : Nat → Prop} {w wr w2 : World} {g' o cap : Nat} {bs : List Int} {g : Int} {fv : Value} {a : Nat} (h : DS w wr (.slice (some ⟨g', o, none⟩) bs.length cap) bs g fv a) (hg : g' < w.heap.size) (hc : Chg F wr w2) (hF : ∀ i, F i → w.heap.size + 4 ≤ i) :
    DS w w2 (.slice (some ⟨g', o, none⟩) bs.length cap) bs g fv a :=
  ⟨h.p.chg hc (fun k => by have := hF _ k; omega), h.e.chg hc (fun k => by have := hF _ k; omega), h.t.chg hc (fun k => by have := hF _ k; omega), h.r.chg hc (fun k => by have := hF _ k; omega), h.b.chg hc (fun k => by have := hF _ k; omega), Below.trans h.x (hc.below h.x.size (fun i hi => by have := hF _ hi; omega))⟩
theorem row_weak {w : World} {b b' : Nat} {e : TypeId} {size : Nat} {v : Value} {n : Nat} {xs : List Value} (h : w.ownsRow b e size v n xs) (hb : b' ≤ b) : w.ownsRow b' e size v n xs := by
  refine ⟨h.1, ?_⟩
  rcases h.2 with ⟨h1, h2⟩ | ⟨g, cap, cur, rfl, h2, h3, h4, h5, h6⟩
  · exact .inl ⟨h1, h2⟩
  · exact .inr ⟨g, cap, cur, rfl, by omega, h3, h4, h5, h6⟩
theorem DS.start {w : World} {v : Value} {bs : List Int} (h : Bs w v bs) : DS w ((((w.alloc (.cells #[.int .i64 0, .slice none 0 0] 24)).alloc (.cells #[.int .i64 0] 3)).alloc (.cells #[.int .i64 0] 3)).alloc (.cells #[v, .int .i64 0] 52)) v bs 0 (.slice none 0 0) 0 := by
  have x1 := Ex.made w (.cells #[.int .i64 0, .slice none 0 0] 24)
  have x2 := Ex.made (w.alloc (.cells #[.int .i64 0, .slice none 0 0] 24)) (.cells #[.int .i64 0] 3)
  have x3 := Ex.made ((w.alloc (.cells #[.int .i64 0, .slice none 0 0] 24)).alloc (.cells #[.int .i64 0] 3)) (.cells #[.int .i64 0] 3)
  have x4 := Ex.made (((w.alloc (.cells #[.int .i64 0, .slice none 0 0] 24)).alloc (.cells #[.int .i64 0] 3)).alloc (.cells #[.int .i64 0] 3)) (.cells #[v, .int .i64 0] 52)
  refine ⟨(((Box.fresh w _ _).ex x2).ex x3).ex x4, ?_, ?_, ?_, h.ex (((x1.trans x2).trans x3).trans x4), ((x1.trans x2).trans x3).trans x4⟩
  · have := ((Box.fresh (w.alloc (.cells #[.int .i64 0, .slice none 0 0] 24)) #[.int .i64 0] 3).ex x3).ex x4
    simpa using this
  · have := (Box.fresh ((w.alloc (.cells #[.int .i64 0, .slice none 0 0] 24)).alloc (.cells #[.int .i64 0] 3)) #[.int .i64 0] 3).ex x4
    simpa using this
  · have := Box.fresh (((w.alloc (.cells #[.int .i64 0, .slice none 0 0] 24)).alloc (.cells #[.int .i64 0] 3)).alloc (.cells #[.int .i64 0] 3)) #[v, .int .i64 0] 52
    simpa using this

end Go.Proofs.Ytmajnjbjoagihaa
