/- Package timer by its sorted list: what each call does. -/
import Derived.Test.YtofdlbnlfeocoaaAbs13
namespace Go.Proofs.Ytofdlbnlfeocoaa
open Go.RowKit
set_option linter.unusedVariables false

/-- The timers in block b: those of S sleep, in their order; k were added; their row lies in the block o. -/
def TS (w : World) (base b : Nat) (o : Option Nat) (k : Nat) (S : List T3) : Prop := ∃ v m, Sv w base b k v m ∧ v.ownBlock = o ∧ Abs m S k
/-- The block and the row's own may turn. -/
def Ob (b : Nat) (o : Option Nat) (i : Nat) : Prop := i = b ∨ o = some i
/-- The same row, or one in a new block. -/
def NewO (w : World) (o o' : Option Nat) : Prop := o' = o ∨ ∃ g, o' = some g ∧ w.heap.size ≤ g

theorem TS.bl {w : World} {base b k : Nat} {o : Option Nat} {S : List T3} (h : TS w base b o k S) : b < base ∧ base ≤ w.heap.size ∧ ∀ g, o = some g → base ≤ g ∧ g < w.heap.size := by
  obtain ⟨v, m, h1, rfl, h2⟩ := h
  exact ⟨h1.bl, h1.wl, fun g hg => ⟨h1.own g hg, h1.ownlt g hg⟩⟩
theorem TS.ex {w w' : World} {base b k : Nat} {o : Option Nat} {S : List T3} (h : TS w base b o k S) (x : Ex w w') : TS w' base b o k S := by
  obtain ⟨v, m, h1, ho, h2⟩ := h
  exact ⟨v, m, h1.ex x, ho, h2⟩
theorem TS.chg {w w' : World} {base b k : Nat} {o : Option Nat} {S : List T3} {F : Nat → Prop} (h : TS w base b o k S) (x : Chg F w w') (h1 : ¬ F b) (h2 : ∀ g, o = some g → ¬ F g) : TS w' base b o k S := by
  obtain ⟨v, m, k1, rfl, k2⟩ := h
  exact ⟨v, m, k1.chg x h1 h2, rfl, k2⟩
theorem TS.fb {w w1 w' : World} {base b k : Nat} {o : Option Nat} {S : List T3} (h : TS w base b o k S) (c : Chg (Ob b o) w1 w') : Chg (FB base b) w1 w' :=
  c.weak (fun i _ hi => hi.imp id (fun e => (h.bl.2.2 i e).1))

def TRow (w : World) (base : Nat) (u : Value) (l : List Int) : Prop := w.ownsRow base 3 1 u l.length (intsZ l)

theorem ts_new (w : World) : Calls Try.prog 9 #[] w fun e w' => e = .returned (.pointer (some ⟨w.heap.size, 0, none⟩)) ∧ TS w' (w.heap.size + 1) w.heap.size none 0 [] ∧ Ex w w' :=
  (new_any w).mono fun e w' ⟨h1, h2, h3⟩ => ⟨h1, ⟨_, [], h2, rfl, Abs.nil⟩, h3⟩

def AddS (w : World) (base b : Nat) (o : Option Nat) (k : Nat) (S : List T3) (e : Ending) (w' : World) : Prop :=
  e = .returned (.tuple #[]) ∧ (∃ o', TS w' base b o' k S ∧ NewO w o o') ∧ Chg (Ob b o) w w'

theorem ts_add {w : World} {base b k : Nat} {o : Option Nat} {S : List T3} (h : TS w base b o k S) (hn : S.length < 900) (hk : k < 1000000) (when g : Int) :
    Calls Try.prog 10 #[.pointer (some ⟨b, 0, none⟩), .int .i64 when, .int .i64 g] w (AddS w base b o (k + 1) (insT (when, g, (k : Int) + 1) S)) := by
  obtain ⟨v, m, h1, rfl, h2⟩ := h
  have hm := h2.len
  refine (tadd_any h1 when g m.length rfl (by omega) (by omega)).mono ?_
  rintro e w' ⟨rfl, ⟨g', cap, h3, -, h5⟩, h4⟩
  refine ⟨rfl, ⟨_, ⟨_, _, h3, rfl, h2.add when g m.length rfl⟩, ?_⟩, h4⟩
  rcases h5 with h5 | h5
  · exact .inl h5.symm
  · exact .inr ⟨g', rfl, h5⟩

theorem ts_len {w : World} {base b k : Nat} {o : Option Nat} {S : List T3} (h : TS w base b o k S) :
    Calls Try.prog 13 #[.pointer (some ⟨b, 0, none⟩)] w fun e w' => e = .returned (.int .i64 (S.length : Nat)) ∧ w = w' := by
  obtain ⟨v, m, h1, -, h2⟩ := h
  obtain ⟨a, cap, rfl⟩ := row_val h1.row
  rw [h2.len]
  exact tlen_any h1

theorem ts_next {w : World} {base b k : Nat} {o : Option Nat} {S : List T3} (h : TS w base b o k S) (hn : 0 < S.length) :
    Calls Try.prog 12 #[.pointer (some ⟨b, 0, none⟩)] w fun e w' => e = .returned (.tuple #[.int .i64 (at3 S 0).1, .bool true]) ∧ w = w' := by
  obtain ⟨v, m, h1, -, h2⟩ := h
  have hm := h2.len
  obtain ⟨a, cap, rfl⟩ := row_val h1.row
  obtain ⟨n, hl⟩ : ∃ n, m.length = n + 1 := ⟨m.length - 1, by omega⟩
  obtain ⟨g, rfl⟩ : ∃ g, a = some ⟨g, 0, none⟩ := by
    rcases row_shape h1.row with ⟨h3, h4, -⟩ | ⟨g, cap', h3, -⟩
    · omega
    · simp only [Value.slice.injEq] at h3
      exact ⟨g, h3.1⟩
  rw [hl] at h1
  exact tnext_any h1 hl _ (by rw [h2.top (by omega)])

theorem ts_none {w : World} {base b k : Nat} {o : Option Nat} (h : TS w base b o k []) :
    Calls Try.prog 12 #[.pointer (some ⟨b, 0, none⟩)] w fun e w' => e = .returned (.tuple #[.int .i64 0, .bool false]) ∧ w = w' := by
  obtain ⟨v, m, h1, -, h2⟩ := h
  have hm := h2.len
  obtain ⟨a, cap, rfl⟩ := row_val h1.row
  have hm0 : m.length = 0 := by simpa using hm.symm
  rw [hm0] at h1
  exact next_none h1

def DueS (w : World) (base b : Nat) (o : Option Nat) (k : Nat) (S : List T3) (now : Int) (e : Ending) (w' : World) : Prop :=
  ∃ u, e = .returned u ∧ TRow w' w.heap.size u ((dueS now S).map (fun p => p.2.1)) ∧ TS w' base b o k (leftS now S) ∧ Chg (Ob b o) w w'

theorem ts_due {w : World} {base b k : Nat} {o : Option Nat} {S : List T3} (h : TS w base b o k S) (hn : S.length < 900) (now : Int) :
    Calls Try.prog 11 #[.pointer (some ⟨b, 0, none⟩), .int .i64 now] w (DueS w base b o k S now) := by
  obtain ⟨v, m, h1, rfl, h2⟩ := h
  have hm := h2.len
  refine (due_any h1 h1.ownlt now (by omega)).mono ?_
  rintro e w' ⟨u, rfl, ⟨⟨u2, h3, -, h6⟩, h4, h5⟩⟩
  obtain ⟨k1, k2⟩ := h2.due now (m.length + 1) (by omega)
  rw [k1] at h3 h4
  exact ⟨u, rfl, h4, ⟨_, _, h3, h6, k2⟩, h5⟩

def DelS (w : World) (base b : Nat) (o : Option Nat) (k : Nat) (S : List T3) (g : Int) (e : Ending) (w' : World) : Prop :=
  e = .returned (.bool (S.any (fun p => p.2.1 == g))) ∧ TS w' base b o k (delS g S) ∧ Chg (Ob b o) w w'

theorem ts_del {w : World} {base b k : Nat} {o : Option Nat} {S : List T3} (h : TS w base b o k S) (hn : S.length < 900) (g : Int) :
    Calls Try.prog 14 #[.pointer (some ⟨b, 0, none⟩), .int .i64 g] w (DelS w base b o k S g) := by
  obtain ⟨v, m, h1, rfl, h2⟩ := h
  have hm := h2.len
  refine (del_any h1 g (by omega)).mono ?_
  rintro e w' ⟨r, l', u, rfl, h3, h4, h6, h5⟩
  obtain ⟨rfl, k2⟩ := h2.del h3
  exact ⟨rfl, ⟨_, _, h4, h6, k2⟩, h5⟩

def AllS (w : World) (S : List T3) (e : Ending) (w' : World) : Prop :=
  ∃ u, e = .returned u ∧ w'.ownsRow w.heap.size 45 2 u S.length (cells2 S) ∧ Ex w w'

theorem ts_all {w : World} {base b k : Nat} {o : Option Nat} {S : List T3} (h : TS w base b o k S) (hn : S.length < 900) :
    Calls Try.prog 19 #[.pointer (some ⟨b, 0, none⟩)] w (AllS w S) := by
  obtain ⟨v, m, h1, -, h2⟩ := h
  have hm := h2.len
  refine (all_any h1 (by omega)).mono ?_
  rintro e w' ⟨s, u, rfl, h3, h4, h5⟩
  obtain rfl := h2.all h3
  exact ⟨u, rfl, h4, h5⟩

end Go.Proofs.Ytofdlbnlfeocoaa
