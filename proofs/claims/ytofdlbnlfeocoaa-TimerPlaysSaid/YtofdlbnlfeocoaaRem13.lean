/- container/heap: Remove; slices.Index. -/
import Derived.Test.YtofdlbnlfeocoaaSort13B
namespace Go.Proofs.Ytofdlbnlfeocoaa
open Go.RowKit Go.Sort Go.Shelf Go.Lib
set_option linter.unusedVariables false

theorem eq3 : EqlAt Try.prog 57 (fun x : T3 => .agg (enc3 x).toArray) (fun x y => x.1 == y.1 && x.2.1 == y.2.1 && x.2.2 == y.2.2) := by
  refine ⟨fun x y w => ?_, GuardAt.agg _ (by kernel_rfl)⟩
  have a45 := Try.isAgg45
  have z45 := Try.sizeOf45
  have a2 := Try.isAgg2
  have z2 := Try.sizeOf2
  have u2 := Try.underlying2
  have u3 := Try.underlying3
  have a3 := Try.isAgg3
  have z3 := Try.sizeOf3
  have hS : Try.prog.underlying 57 = some (.struct (Try.prog.fieldsOf 57)) := by kernel_rfl
  have hp : Try.prog.stoodInHeld 57 = false := by kernel_rfl
  have hS5 : Try.prog.underlying 45 = some (.struct (Try.prog.fieldsOf 45)) := by kernel_rfl
  have hp5 : Try.prog.stoodInHeld 45 = false := by kernel_rfl
  have hin : ∀ (x1 x2 y1 y2 : Int) (w : World), (Op.equalIn 9999 45 (.agg #[.int .i64 x1, .int .i64 x2]) (.agg #[.int .i64 y1, .int .i64 y2])).run Try.prog w = .ok (x1 == y1 && x2 == y2 : Bool) w := by
    intro x1 x2 y1 y2 w
    rw [show (9999 : Nat) = 9998 + 1 from rfl, run_equalIn_agg w 9998 45 _ _ hS5 hp5]
    simp only [Program.fieldsOf, Try.underlying45]
    go_simp
    by_cases h1 : x1 = y1 <;> by_cases h2 : x2 = y2 <;> simp [h1, h2]
  simp only [enc3]
  rw [run_eql_struct, show (10000 : Nat) = 9999 + 1 from rfl, run_equalIn_agg w 9999 57 _ _ hS hp]
  simp only [Program.fieldsOf, Try.underlying57]
  go_simp
  by_cases h1 : x.fst = y.fst <;> by_cases h2 : x.snd.fst = y.snd.fst <;> by_cases h3 : x.snd.snd = y.snd.snd <;> simp [h1, h2, h3]

theorem eq3_iff (x y : T3) : (x.1 == y.1 && x.2.1 == y.2.1 && x.2.2 == y.2.2) = true ↔ x = y := by
  obtain ⟨x1, x2, x3⟩ := x
  obtain ⟨y1, y2, y3⟩ := y
  simp [and_assoc]

/-- The first place of one that is there. -/
theorem first_at (l : List T3) (x : T3) (hx : x ∈ l) : ∃ i, i < l.length ∧ at3 l i = x ∧ Lib.idxBy (fun x y : T3 => x.1 == y.1 && x.2.1 == y.2.1 && x.2.2 == y.2.2) (l.take l.length) x = i := by
  induction l with
  | nil => cases hx
  | cons y l ih => exact first_aux (y :: l) x hx
where
  first_aux (l : List T3) (x : T3) (hx : x ∈ l) : ∃ i, i < l.length ∧ at3 l i = x ∧ Lib.idxBy (fun x y : T3 => x.1 == y.1 && x.2.1 == y.2.1 && x.2.2 == y.2.2) (l.take l.length) x = i := by
    have hl : l.idxOf x < l.length := List.idxOf_lt_length_iff.2 hx
    refine ⟨l.idxOf x, hl, ?_, ?_⟩
    · unfold at3
      simp [hl]
    · refine Lib.idxBy_hit _ l l.length (l.idxOf x) x hl (Nat.le_refl _) ?_ ?_
      · rw [getElem!_pos l _ hl, eq3_iff]
        simp
      · intro j hj
        rw [getElem!_pos l j (by omega), Bool.eq_false_iff, ne_eq, eq3_iff]
        intro e
        have h2 := List.not_of_lt_findIdx (p := (· == x)) (xs := l) (i := j) hj
        have hj' : j < l.length := by omega
        have h3 : l[j] = x := e.symm
        simp [h3] at h2

theorem index_any {w : World} {base g cap n : Nat} {l : List T3} (h : Row3 w base (.slice (some ⟨g, 0, none⟩) n cap) l) (hn : l.length = n) (hl : n < 1000) (x : T3) (hx : x ∈ l) :
    Calls Try.prog 24 #[.slice (some ⟨g, 0, none⟩) n cap, .agg #[.int .i64 x.1, .int .i64 x.2.1, .int .i64 x.2.2]] w fun e w' => ∃ i : Nat, e = .returned (.int .i64 i) ∧ i < n ∧ at3 l i = x ∧ Ex w w' := by
  subst hn
  have K := AnyQ.slices_Index Try.indexL 3 Try.isAgg57 Try.sizeOf57 enc3 (fun _ => rfl) _ eq3 g 0 l.length cap l x w (Nat.le_refl _) (by omega) ?_
  · change Calls Try.prog 24 _ _ _ at K
    refine K.mono ?_
    rintro e w' ⟨rfl, q, rfl⟩
    obtain ⟨i, h1, h2, h3⟩ := first_at l x hx
    exact ⟨i, by rw [h3], h1, h2, (Ex.made w _).trans (Ex.drawn _ _)⟩
  · intro j hj i v hv
    have hi : i < 3 := by
      have := (List.getElem?_eq_some_iff.1 hv).1
      exact this
    rw [Nat.zero_add, World.ownsRow.cellAt h (j * 3 + i) (by omega), cells3_get, if_pos (by omega), show (j * 3 + i) / 3 = j by omega, show (j * 3 + i) % 3 = i by omega]
    rw [getElem!_pos l j hj] at hv
    rw [show l.getD j zz = l[j] by simp [hj]]
    exact hv

/-- One taken out. -/
def remM (l : List T3) (n i : Nat) : List T3 :=
  let r := downL (n + 1) (swp l i n) n i
  if i < r.2 then r.1 else upL (n + 1) r.1 i
def remL (l : List T3) (n i : Nat) : List T3 := if i = n then l.take n else (remM l n i).take n

theorem down_ge : ∀ (f : Nat) (l : List T3) (N i : Nat), i ≤ (downL f l N i).2
  | 0, l, N, i => Nat.le_refl _
  | f + 1, l, N, i => by
    rw [downL]
    by_cases h0 : N ≤ 2 * i + 1
    · rw [if_pos h0]; exact Nat.le_refl _
    · rw [if_neg h0]
      obtain ⟨k1, k2, k3, -⟩ := kid_is l N i h0
      by_cases h1 : ord (l.getD (kid l N i) zz) (l.getD i zz) < 0
      · rw [if_pos h1]; have := down_ge f (swp l i (kid l N i)) N (kid l N i); omega
      · rw [if_neg h1]; exact Nat.le_refl _
theorem down_same (f : Nat) (l : List T3) (N i : Nat) (h : ¬ i < (downL f l N i).2) : (downL f l N i).1 = l := by
  cases f with
  | zero => rfl
  | succ f =>
    rw [downL] at h ⊢
    by_cases h0 : N ≤ 2 * i + 1
    · rw [if_pos h0]
    · rw [if_neg h0] at h ⊢
      obtain ⟨k1, k2, k3, -⟩ := kid_is l N i h0
      by_cases h1 : ord (l.getD (kid l N i) zz) (l.getD i zz) < 0
      · rw [if_pos h1] at h
        have := down_ge f (swp l i (kid l N i)) N (kid l N i)
        omega
      · rw [if_neg h1]
theorem up_far : ∀ (f : Nat) (l : List T3) (j k : Nat), j < k → j < l.length → at3 (upL f l j) k = at3 l k
  | 0, l, j, k, h, hj => rfl
  | f + 1, l, j, k, h, hj => by
    rw [upL]
    by_cases h0 : (j - 1) / 2 = j ∨ ¬ ord (l.getD j zz) (l.getD ((j - 1) / 2) zz) < 0
    · rw [if_pos h0]
    · rw [if_neg h0, up_far f _ _ k (by omega) (by rw [swp_length]; omega), at_swp _ _ _ _ (by omega) hj, if_neg (by omega), if_neg (by omega)]

theorem up_len (f : Nat) (l : List T3) (j : Nat) (h : j < l.length) : (upL f l j).length = l.length := (up_perm f l j h).length_eq

/-- Up where the rest lies behind. -/
theorem up_take : ∀ (f : Nat) (l : List T3) (n j : Nat), j < n → n ≤ l.length → (upL f l j).take n = upL f (l.take n) j
  | 0, l, n, j, h, hn => rfl
  | f + 1, l, n, j, h, hn => by
    have e : ∀ k, k < n → (l.take n).getD k zz = l.getD k zz := by
      intro k hk
      simp [List.getD, hk]
    have es : ∀ i, i < n → (swp l i j).take n = swp (l.take n) i j := by
      intro i hi
      unfold swp
      rw [e j h, e i hi, List.take_set, List.take_set]
    rw [upL, upL, e j h, e _ (by omega)]
    by_cases h0 : (j - 1) / 2 = j ∨ ¬ ord (l.getD j zz) (l.getD ((j - 1) / 2) zz) < 0
    · rw [if_pos h0, if_pos h0]
    · rw [if_neg h0, if_neg h0, up_take f _ n _ (by omega) (by rw [swp_length]; exact hn), es _ (by omega)]

theorem at_take (l : List T3) (n k : Nat) (h : k < n) : at3 (l.take n) k = at3 l k := by
  unfold at3
  simp [List.getD, h]

theorem rem_is (l : List T3) (n i : Nat) (hl : l.length = n + 1) (hi : i < n) (h : Hp l (n + 1)) :
    at3 (remM l n i) n = at3 l i ∧ Hp (remM l n i) n ∧ (remM l n i).length = n + 1 ∧ (remM l n i).Perm l := by
  have hs := swp_length l i n
  have p1 := swp_perm l i n (by omega) (by omega)
  have p2 : (downL (n + 1) (swp l i n) n i).1.Perm (swp l i n) := down_perm (n + 1) _ n i (by omega) (by omega)
  have e1 : at3 (downL (n + 1) (swp l i n) n i).1 n = at3 l i := by
    rw [down_far _ _ _ _ _ (Nat.le_refl _) (by omega) hi, at_swp _ _ _ _ (by omega) (by omega), if_pos rfl]
  have old : ∀ c, 0 < c → c < n → c ≠ i → (c - 1) / 2 ≠ i → ¬ lt3 (at3 (swp l i n) c) (at3 (swp l i n) ((c - 1) / 2)) := by
    intro c c1 c2 c3 c4
    rw [at_swp _ _ _ _ (by omega) (by omega), at_swp _ _ _ _ (by omega) (by omega), if_neg (by omega), if_neg c3, if_neg (by omega), if_neg c4]
    exact h c c1 (by omega)
  have oldk : ∀ c, 0 < c → c < n → (c - 1) / 2 = i → 0 < i → ¬ lt3 (at3 (swp l i n) c) (at3 (swp l i n) ((i - 1) / 2)) := by
    intro c c1 c2 c3 c4
    rw [at_swp _ _ _ _ (by omega) (by omega), at_swp _ _ _ _ (by omega) (by omega), if_neg (by omega), if_neg (by omega), if_neg (by omega), if_neg (by omega)]
    have h1 := h c c1 (by omega)
    have h2 := h i c4 (by omega)
    rw [c3] at h1
    exact nlt3_trans h2 h1
  by_cases hup : 0 < i ∧ lt3 (at3 (swp l i n) i) (at3 (swp l i n) ((i - 1) / 2))
  · obtain ⟨hi0, hup⟩ := hup
    have stay : ¬ i < (downL (n + 1) (swp l i n) n i).2 := by
      rw [downL]
      by_cases h0 : n ≤ 2 * i + 1
      · rw [if_pos h0]; exact Nat.lt_irrefl _
      · rw [if_neg h0]
        obtain ⟨k1, k2, k3, -⟩ := kid_is (swp l i n) n i h0
        rw [if_neg]
        · exact Nat.lt_irrefl _
        · intro h1
          have h2 : lt3 (at3 (swp l i n) (kid (swp l i n) n i)) (at3 (swp l i n) i) := (ord_neg _ _).1 h1
          exact oldk _ (by omega) k1 k2 hi0 (lt3_trans h2 hup)
    have em : remM l n i = upL (n + 1) (swp l i n) i := by
      unfold remM
      dsimp only
      rw [if_neg stay, down_same _ _ _ _ stay]
    have pu := up_perm (n + 1) (swp l i n) i (by omega)
    rw [em]
    refine ⟨?_, ?_, by rw [pu.length_eq, hs, hl], pu.trans p1⟩
    · rw [up_far _ _ _ _ hi (by omega), at_swp _ _ _ _ (by omega) (by omega), if_pos rfl]
    · have hh := up_heap (n + 1) ((swp l i n).take n) i (by omega) (by rw [List.length_take]; omega) ?_
      · rw [← up_take _ _ _ _ hi (by omega)] at hh
        have e : ((swp l i n).take n).length = n := by rw [List.length_take]; omega
        rw [e] at hh
        intro c c1 c2
        have := hh c c1 c2
        rwa [at_take _ _ _ c2, at_take _ _ _ (by omega)] at this
      · have e : ((swp l i n).take n).length = n := by rw [List.length_take]; omega
        rw [e]
        constructor
        · intro c c1 c2 c3
          rw [at_take _ _ _ c2, at_take _ _ _ (by omega)]
          by_cases c4 : (c - 1) / 2 = i
          · rw [c4]
            exact fun hk => oldk c c1 c2 c4 hi0 (lt3_trans hk hup)
          · exact old c c1 c2 c3 c4
        · intro c c1 c2 c3 c4
          rw [at_take _ _ _ c2, at_take _ _ _ (by omega)]
          exact oldk c c1 c2 c3 c4
  · have hd : Hp (downL (n + 1) (swp l i n) n i).1 n := by
      refine down_heap (n + 1) _ n i (by omega) (by omega) (by omega) ⟨?_, oldk⟩
      intro c c1 c2 c3
      by_cases c4 : c = i
      · subst c4
        exact fun hk => hup ⟨c1, hk⟩
      · exact old c c1 c2 c4 c3
    by_cases hm : i < (downL (n + 1) (swp l i n) n i).2
    · have em : remM l n i = (downL (n + 1) (swp l i n) n i).1 := by
        unfold remM
        dsimp only
        rw [if_pos hm]
      rw [em]
      exact ⟨e1, hd, by rw [p2.length_eq, hs, hl], p2.trans p1⟩
    · have es := down_same _ _ _ _ hm
      have em : remM l n i = swp l i n := by
        unfold remM
        dsimp only
        rw [if_neg hm, es]
        by_cases hi0 : i = 0
        · subst hi0; exact up_zero _ _
        · refine up_stop rfl (decide_eq_false ?_)
          intro hk
          exact hup ⟨by omega, (ord_neg _ _).1 hk⟩
      rw [es] at hd e1
      rw [em]
      exact ⟨e1, hd, by rw [hs, hl], p1⟩

theorem remL_is (l : List T3) (n i : Nat) (hl : l.length = n + 1) (hi : i ≤ n) (h : Hp l (n + 1)) :
    (remL l n i).length = n ∧ Hp (remL l n i) n ∧ (remL l n i ++ [at3 l i]).Perm l := by
  unfold remL
  by_cases e : i = n
  · subst e
    rw [if_pos rfl]
    refine ⟨by rw [List.length_take]; omega, ?_, ?_⟩
    · exact Hp.take (fun c c1 c2 => h c c1 (by omega)) (by omega)
    · have := hlast l i hl
      exact List.Perm.of_eq this.symm
  · rw [if_neg e]
    obtain ⟨h1, h2, h3, h4⟩ := rem_is l n i hl (by omega) h
    refine ⟨by rw [List.length_take]; omega, h2.take (by omega), ?_⟩
    have e2 := hlast (remM l n i) n h3
    rw [show (remM l n i).getD n zz = at3 l i from h1] at e2
    rw [← e2]
    exact h4

end Go.Proofs.Ytofdlbnlfeocoaa
