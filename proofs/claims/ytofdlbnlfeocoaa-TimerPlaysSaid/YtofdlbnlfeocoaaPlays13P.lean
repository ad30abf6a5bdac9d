/- TimerPlays: the document's list is the sorted list; the two side by side. -/
import Derived.Test.YtofdlbnlfeocoaaTS13
import Derived.Test.YtofdlbnlfeocoaaRDel13
import Derived.Test.YtofdlbnlfeocoaaRDue13
namespace Go.Proofs.Ytofdlbnlfeocoaa
open Go.RowKit
set_option linter.unusedVariables false

def Up (S : List T3) : Prop := S.Pairwise (fun p q => p.1 ≤ q.1)
theorem ins_split (p : T3) : ∀ (A B : List T3), (∀ a ∈ A, a.1 ≤ p.1) → (∀ b ∈ B, p.1 < b.1) → insT p (A ++ B) = A ++ p :: B
  | [], [], _, _ => rfl
  | [], b :: B, _, h => by simp [insT, h b (by simp)]
  | a :: A, B, h1, h2 => by
    have ha := h1 a (by simp)
    rw [List.cons_append, insT, if_neg (by omega), ins_split p A B (fun x hx => h1 x (by simp [hx])) h2]
    rfl
theorem cut_spec (L : List T3) (x : Int) : ∀ n, (∀ j, cutT L x n ≤ j → j < n → x < (at3 L j).1) ∧ (cutT L x n = 0 ∨ (at3 L (cutT L x n - 1)).1 ≤ x)
  | 0 => ⟨fun j _ h => by omega, .inl rfl⟩
  | n + 1 => by
    unfold cutT
    split
    · obtain ⟨h1, h2⟩ := cut_spec L x n
      refine ⟨fun j hj hn => ?_, h2⟩
      rcases Nat.lt_or_ge j n with h | h
      · exact h1 j hj h
      · obtain rfl : j = n := by omega
        assumption
    · exact ⟨fun j hj hn => by omega, .inr (by simpa using by omega)⟩
theorem addR_ins {S : List T3} (h : Up S) (p : T3) : addR p S = insT p S := by
  obtain ⟨K, hK⟩ : ∃ K, cutT S p.1 S.length = K := ⟨_, rfl⟩
  obtain ⟨h1, h2⟩ := cut_spec S p.1 S.length
  have hle := cutT_le S p.1 S.length
  unfold addR
  rw [hK] at h1 h2 hle ⊢
  have key := ins_split p (S.take K) (S.drop K) ?_ ?_
  · rw [List.take_append_drop] at key
    exact key.symm
  · intro a ha
    obtain ⟨j, hj, rfl⟩ := List.getElem_of_mem ha
    rw [List.length_take] at hj
    rw [List.getElem_take]
    have h3 : (at3 S (K - 1)).1 ≤ p.1 := h2.resolve_left (by omega)
    have hk : K - 1 < S.length := by omega
    have e : at3 S (K - 1) = S[K - 1] := by simp [at3, hk]
    rw [e] at h3
    rcases Nat.lt_or_ge j (K - 1) with hlt | hge
    · have := List.pairwise_iff_getElem.1 h j (K - 1) (by omega) hk hlt
      omega
    · obtain rfl : j = K - 1 := by omega
      exact h3
  · intro b hb
    obtain ⟨j, hj, rfl⟩ := List.getElem_of_mem hb
    rw [List.length_drop] at hj
    rw [List.getElem_drop]
    have := h1 (K + j) (by omega) (by omega)
    simpa [at3, show K + j < S.length by omega] using this
theorem up_ins (p : T3) : ∀ {S : List T3}, Up S → Up (insT p S)
  | [], _ => by simp [insT, Up]
  | q :: l, h => by
    have h' := List.pairwise_cons.1 h
    unfold insT
    split
    · refine List.pairwise_cons.2 ⟨fun r hr => ?_, h⟩
      rcases List.mem_cons.1 hr with rfl | hr
      · omega
      · have := h'.1 r hr; omega
    · refine List.pairwise_cons.2 ⟨fun r hr => ?_, up_ins p h'.2⟩
      have := (insT_perm p l).mem_iff.1 hr
      rcases List.mem_append.1 this with hr | hr
      · exact h'.1 r hr
      · obtain rfl : r = p := by simpa using hr
        omega
theorem insT_len (p : T3) (S : List T3) : (insT p S).length = S.length + 1 := by
  have := (insT_perm p S).length_eq
  simpa using this
theorem rdueL_is (now : Int) : ∀ {S : List T3}, Up S → rdueL now S = ((dueS now S).map (fun p => p.2.1), leftS now S)
  | [], _ => rfl
  | p :: l, h => by
    have h' := List.pairwise_cons.1 h
    have ih := rdueL_is now h'.2
    unfold dueS leftS at ih ⊢
    by_cases hp : p.1 ≤ now
    · rw [rdueL, if_pos hp, ih]
      have : ¬ now < p.1 := by omega
      simp [hp, this]
    · rw [rdueL, if_neg hp]
      have hl : ∀ q ∈ l, now < q.1 := fun q hq => by have := h'.1 q hq; omega
      have e1 : (p :: l).filter (fun p => decide (p.1 ≤ now)) = [] := by
        rw [List.filter_eq_nil_iff]
        intro q hq
        rcases List.mem_cons.1 hq with rfl | hq
        · simpa using by omega
        · have := hl q hq; simpa using this
      have e2 : (p :: l).filter (fun p => decide (now < p.1)) = p :: l := by
        rw [List.filter_eq_self]
        intro q hq
        rcases List.mem_cons.1 hq with rfl | hq
        · simpa using by omega
        · have := hl q hq; simpa using this
      rw [e1, e2]
      rfl
theorem up_left (now : Int) {S : List T3} (h : Up S) : Up (leftS now S) := h.filter _
theorem left_len (now : Int) (S : List T3) : (leftS now S).length ≤ S.length := List.length_filter_le _ _
theorem due_len (now : Int) (S : List T3) : ((dueS now S).map (fun p => p.2.1)).length ≤ S.length := by rw [List.length_map]; exact List.length_filter_le _ _
theorem up_del (g : Int) {S : List T3} (h : Up S) : Up (delS g S) := h.sublist List.eraseP_sublist
theorem del_len (g : Int) (S : List T3) : (delS g S).length ≤ S.length := List.eraseP_sublist.length_le

/-- The program's sleepers S, the document's R. -/
structure Pr (wr : World) (base b : Nat) (o : Option Nat) (k xb : Nat) (v : Value) (S R : List T3) : Prop where
  ts : TS wr base b o k S
  rt : Rt wr xb v R
  xbase : base ≤ xb
  vbase : ∀ g, v.ownBlock = some g → base ≤ g
  oxb : o ≠ some xb
  ov : ∀ g, v.ownBlock = some g → o ≠ some g
theorem Pr.ex {w w' : World} {base b k xb : Nat} {o : Option Nat} {v : Value} {S R : List T3} (h : Pr w base b o k xb v S R) (x : Ex w w') : Pr w' base b o k xb v S R :=
  ⟨h.ts.ex x, h.rt.ex x, h.xbase, h.vbase, h.oxb, h.ov⟩
theorem Pr.obx {w : World} {base b k xb : Nat} {o : Option Nat} {v : Value} {S R : List T3} (h : Pr w base b o k xb v S R) : ¬ Ob b o xb := by
  rintro (e | e)
  · have := h.ts.bl.1; have := h.xbase; omega
  · exact h.oxb e
theorem Pr.obv {w : World} {base b k xb : Nat} {o : Option Nat} {v : Value} {S R : List T3} (h : Pr w base b o k xb v S R) : ∀ g, v.ownBlock = some g → ¬ Ob b o g := by
  rintro g hg (e | e)
  · have := h.ts.bl.1; have := h.vbase g hg; omega
  · exact h.ov g hg e
theorem Pr.t {w w' : World} {base b k k' xb : Nat} {o o' : Option Nat} {v : Value} {S S' R : List T3} (h : Pr w base b o k xb v S R) (ht : TS w' base b o' k' S') (hn : NewO w o o') (c : Chg (Ob b o) w w') : Pr w' base b o' k' xb v S' R := by
  refine ⟨ht, h.rt.chg h.obx h.obv c, h.xbase, h.vbase, ?_, ?_⟩
  · rcases hn with rfl | ⟨g, rfl, hg⟩
    · exact h.oxb
    · intro e; cases e; have := h.rt.lt; omega
  · intro g hg
    rcases hn with rfl | ⟨g', rfl, hg'⟩
    · exact h.ov g hg
    · intro e; cases e; have := (h.rt.own g hg).2; omega
theorem Pr.x {w w' : World} {base b k xb : Nat} {o : Option Nat} {v v' : Value} {S R R' : List T3} (h : Pr w base b o k xb v S R) (hr : Rt w' xb v' R') (hn : NewB w v v') (c : Chg (fun i => i = xb) w w') : Pr w' base b o k xb v' S R' := by
  have hb := h.ts.bl
  refine ⟨h.ts.chg c (fun e => by have := h.xbase; omega) (fun g hg e => h.oxb (by rw [hg, e])), hr, h.xbase, ?_, h.oxb, ?_⟩
  · intro g hg
    rcases hn g hg with h1 | h1
    · exact h.vbase g h1
    · omega
  · intro g hg e
    rcases hn g hg with h1 | h1
    · exact h.ov g h1 e
    · have := (hb.2.2 g e).2; omega
/-- A row of numbers made behind w0. -/
theorem row_t {w0 w w' : World} {base b k xb : Nat} {o : Option Nat} {v u : Value} {S R : List T3} {l : List Int} (h : Pr w0 base b o k xb v S R) (hr : w.ownsRow w0.heap.size 3 1 u l.length (intsZ l)) (c : Chg (Ob b o) w w') : w'.ownsRow w0.heap.size 3 1 u l.length (intsZ l) :=
  row_chg hr c (fun g hg e => by
    have h1 := row_base hr g hg
    rcases e with rfl | e
    · have := h.ts.bl; omega
    · have := (h.ts.bl.2.2 g e).2; omega)
theorem row_x {w0 w w' : World} {base b k xb : Nat} {o : Option Nat} {v u : Value} {S R : List T3} {l : List Int} (h : Pr w0 base b o k xb v S R) (hr : w.ownsRow w0.heap.size 3 1 u l.length (intsZ l)) (c : Chg (fun i => i = xb) w w') : w'.ownsRow w0.heap.size 3 1 u l.length (intsZ l) :=
  row_chg hr c (fun g hg e => by
    have h1 := row_base hr g hg
    have := h.rt.lt
    omega)

theorem Pr.boxt {w w' : World} {base b k xb nb : Nat} {o : Option Nat} {v : Value} {S R : List T3} {cs : Array Value} {t : TypeId} (h : Pr w base b o k xb v S R) (hB : Box w nb cs t) (hn : b < nb ∧ xb < nb ∧ o ≠ some nb) (c : Chg (Ob b o) w w') : Box w' nb cs t :=
  hB.chg c (by rintro (e | e); exact absurd e (by omega); exact hn.2.2 e)
theorem boxx {w w' : World} {b xb nb : Nat} {o : Option Nat} {cs : Array Value} {t : TypeId} (hB : Box w nb cs t) (hn : b < nb ∧ xb < nb ∧ o ≠ some nb) (c : Chg (fun i => i = xb) w w') : Box w' nb cs t :=
  hB.chg c (fun e => absurd e (by omega))
theorem Pr.ext {w0 w w' : World} {b k xb : Nat} {o : Option Nat} {v : Value} {S R : List T3} (h : Pr w (b + 1) b o k xb v S R) (hb : w0.heap.size = b) (e : Ex w0 w) (c : Chg (Ob b o) w w') : Ex w0 w' :=
  Below.trans e (c.below e.size (by
    rintro i (hi | hi)
    · omega
    · have := (h.ts.bl.2.2 i hi).1; omega))
theorem Pr.exx {w0 w w' : World} {b k xb : Nat} {o : Option Nat} {v : Value} {S R : List T3} (h : Pr w (b + 1) b o k xb v S R) (hb : w0.heap.size = b) (e : Ex w0 w) (c : Chg (fun i => i = xb) w w') : Ex w0 w' :=
  Below.trans e (c.below e.size (by
    intro i hi
    have := h.xbase
    omega))

/-- Where a round of the ops begins. -/
structure LoopR (w wr : World) (b xb len : Nat) (iv : Value) : Prop where
  out : ∃ (i k : Nat) (o : Option Nat) (v : Value) (S : List T3), i ≤ 60 ∧ i ≤ len ∧ iv = .int .i64 i ∧ k ≤ i ∧ S.length ≤ i ∧ Up S ∧ Pr wr (b + 1) b o k xb v S S ∧ Ex w wr

end Go.Proofs.Ytofdlbnlfeocoaa
