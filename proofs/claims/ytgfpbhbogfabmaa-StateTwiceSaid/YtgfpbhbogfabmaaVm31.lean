/- The shapes of a law's arguments, as the kernel computes them. -/
import Derived.Test.YtgfpbhbogfabmaaVm23
import Derived.Test.YtgfpbhbogfabmaaVm30
set_option linter.unusedVariables false
set_option linter.unusedSimpArgs false
set_option linter.unnecessarySimpa false
set_option linter.unusedSectionVars false
namespace Go.Vm
inductive TSh where
  | bool
  | int (k : IntKind)
  | str
  | slice (z : Nat) (e : TSh)
  | fin
  | field (n : Nat) (a b : TSh)
  | bad
def TyS : TSh → List TV → Prop
  | .bool, cs => ∃ b, cs = [.bool b]
  | .int k, cs => ∃ n, cs = [.int k n] ∧ k.min ≤ n ∧ n ≤ k.max
  | .str, cs => ∃ s : ByteArray, cs = [.str s] ∧ s.size ≤ 9223372036854775807
  | .slice z e, cs => ∃ xs, cs = [.sl z xs] ∧ xs.length ≤ 9223372036854775807 ∧ ∀ r ∈ xs, TyS e r
  | .fin, cs => cs = []
  | .field n a b, cs => ∃ c1 c2, cs = c1 ++ c2 ∧ c1.length = n ∧ TyS a c1 ∧ TyS b c2
  | .bad, _ => False
def shapeT (P : Program) : Nat → TypeId → TSh
  | 0, _ => .bad
  | d + 1, t => match P.underlying t with
    | some .bool => .bool
    | some (.int k) => .int k
    | some .string => .str
    | some (.slice e) => .slice (szT P e) (shapeT P d e)
    | some (.struct fs) => fs.toList.foldr (fun f acc => .field (szT P f.type) (shapeT P d f.type) acc) .fin
    | _ => .bad
theorem TyF_shape (P : Program) (d : Nat) (ih : ∀ t cs, TyC P d t cs → TyS (shapeT P d t) cs) : ∀ (fs : List Field) (cs : List TV), TyF P (TyC P d) fs cs →
    TyS (fs.foldr (fun f acc => .field (szT P f.type) (shapeT P d f.type) acc) .fin) cs
  | [], cs, h => h
  | f :: fs, cs, h => by
    obtain ⟨c1, c2, rfl, h1, h2, h3⟩ := h
    exact ⟨c1, c2, rfl, h1, ih _ _ h2, TyF_shape P d ih fs c2 h3⟩
theorem TyC_shape (P : Program) : ∀ (d : Nat) (t : TypeId) (cs : List TV), TyC P d t cs → TyS (shapeT P d t) cs
  | 0, _, _, h => h.elim
  | d + 1, t, cs, h => by
    unfold TyC at h
    unfold shapeT
    split at h
    · rename_i hu; rw [hu]; exact h
    · rename_i hu; rw [hu]; exact h
    · rename_i hu; rw [hu]; exact h
    · rename_i e hu; rw [hu]
      obtain ⟨xs, h1, h2, h3⟩ := h
      exact ⟨xs, h1, h2, fun r hr => TyC_shape P d e r (h3 r hr)⟩
    · rename_i fs hu; rw [hu]
      exact TyF_shape P d (fun t cs h => TyC_shape P d t cs h) _ _ h
    · exact h.elim
def ArgsS : List (Bool × TSh) → List TV → Prop
  | [], vs => vs = []
  | (b, s) :: l, vs => ∃ v vs', vs = v :: vs' ∧ (if b then ∃ cs, v = .agg cs ∧ TyS s cs else TyS s [v]) ∧ ArgsS l vs'
theorem ArgsT_shape (P : Program) (d : Nat) : ∀ (ts : List TypeId) (vs : List TV), ArgsT P d ts vs → ArgsS (ts.map fun t => (aggT P t, shapeT P d t)) vs
  | [], _, h => h
  | t :: ts, vs, h => by
    obtain ⟨v, vs', rfl, h1, h2⟩ := h
    refine ⟨v, vs', rfl, ?_, ArgsT_shape P d ts vs' h2⟩
    unfold ArgT at h1
    split
    · rename_i ha
      rw [if_pos ha] at h1
      obtain ⟨cs, h3, h4⟩ := h1
      exact ⟨cs, h3, TyC_shape P d t cs h4⟩
    · rename_i ha
      rw [if_neg ha] at h1
      exact TyC_shape P d t _ h1
/-- Rows that are each the row of something. -/
theorem rows_map {α : Type} (f : α → List TV) : ∀ (xs : List (List TV)), (∀ r ∈ xs, ∃ a, r = f a) → ∃ l : List α, xs = l.map f
  | [], _ => ⟨[], rfl⟩
  | x :: xs, h => by
    obtain ⟨a, rfl⟩ := h x (by simp)
    obtain ⟨l, rfl⟩ := rows_map f xs fun r hr => h r (by simp [hr])
    exact ⟨a :: l, rfl⟩
end Go.Vm
