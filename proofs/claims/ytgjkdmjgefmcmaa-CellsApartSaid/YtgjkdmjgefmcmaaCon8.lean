/- A part of the proof: Con8. -/
import Derived.Test.YtgjkdmjgefmcmaaCon7
set_option linter.unusedVariables false
set_option linter.unusedSimpArgs false
set_option linter.unnecessarySimpa false
set_option linter.unusedSectionVars false
namespace Go.Proofs.Ytgjkdmjgefmcmaa
open Go Go.Vm Go.Proofs
theorem apart' (l a b : List CellR) (hl : validS l = true) (ha : writesS a = true) (hb : writesS b = true) (hd : ∀ c ∈ a, ∀ d ∈ b, ord c d ≠ 0) : putS (putS l a) b = putS (putS l b) a := by
  have ea : putS l a = putG l a := by unfold putS; rw [hl, ha]; rfl
  have eb : putS l b = putG l b := by unfold putS; rw [hl, hb]; rfl
  have va := valid_put l a hl ha
  have vb := valid_put l b hl hb
  rw [ea] at va; rw [eb] at vb
  rw [ea, eb]
  have eab : putS (putG l a) b = putG (putG l a) b := by unfold putS; rw [va, hb]; rfl
  have eba : putS (putG l b) a = putG (putG l b) a := by unfold putS; rw [vb, ha]; rfl
  rw [eab, eba]
  rw [valid_iff] at hl va vb
  rw [writes_iff] at ha hb
  refine sorted_ext _ _ (Wr_put _ _ va.1 hb) (Wr_put _ _ vb.1 ha) fun d => ?_
  rw [mem_putG _ _ va.1 hb, mem_putG _ _ vb.1 ha, mem_putG l a hl.1 ha, mem_putG l b hl.1 hb]
  have h1 : d ∈ a → ∀ c ∈ b, ord d c ≠ 0 := fun h c hc => hd d h c hc
  have h2 : d ∈ b → ∀ c ∈ a, ord d c ≠ 0 := fun h c hc e => hd c hc d h (by simp only [ord_eq] at *; omega)
  grind
def apartTo (a b : List CellR) (i k : Nat) : Prop := ∀ j, j < k → ord (a.getD i default) (b.getD j default) ≠ 0
def apartUpto (a b : List CellR) (i : Nat) : Prop := ∀ j, j < i → apartTo a b j b.length
theorem l7 (l a b : List CellR) : callE Try.prog NoPhi 7 [.sl 6 (l.map CellR.row), .sl 6 (a.map CellR.row), .sl 6 (b.map CellR.row)] = some (.bool true) := by
  have q1 : (putS l a).length ≤ l.length + a.length := by unfold putS; split; exact put_len l a; simp
  have q2 : (putS l b).length ≤ l.length + b.length := by unfold putS; split; exact put_len l b; simp
  have q3 : (putS (putS l a) b).length ≤ (putS l a).length + b.length := by
    generalize putS l a = x
    unfold putS; split; exact put_len x b; simp
  have q4 : (putS (putS l b) a).length ≤ (putS l b).length + a.length := by
    generalize putS l b = x
    unfold putS; split; exact put_len x a; simp
  refine call_heads (ι := Nat ⊕ (Nat × Nat)) Try.f7 hd7 76 Try.func7 (by kernel_rfl) rfl
    (Sum.elim (fun _ => p7a) (fun _ => p7b)) (by rintro (_ | _) <;> rfl)
    (Sum.elim (fun i => w7a l a b i) (fun x => w7b l a b x.1 x.2))
    (fun j => (l.length ≤ 200 ∧ a.length ≤ 200 ∧ b.length ≤ 200 ∧ validS l = true ∧ writesS a = true ∧ writesS b = true) ∧ Sum.elim (fun i => i ≤ a.length ∧ apartUpto a b i) (fun x => x.1 < a.length ∧ x.2 ≤ b.length ∧ apartUpto a b x.1 ∧ apartTo a b x.1 x.2) j)
    (Sum.elim (fun i => (a.length - i) * (b.length + 2)) (fun x => (a.length - x.1 - 1) * (b.length + 2) + (b.length - x.2) + 1)) ⟨_, e7 l a b, ?_⟩ (fun j n hj g => ?_)
  · have h0 : apartUpto a b 0 := fun j hj => by omega
    simp +contextual (disch := omega) [TW, LcQ, p7a, p7b, c9, c9b, c10, c11, c13, w7a, w7b, Sum.exists, h0]
    grind
  · rcases j with i | ⟨i, k⟩
    · obtain ⟨⟨hll, hla, hlb, hl, ha, hb⟩, hi, hup⟩ := hj
      refine ⟨_, r7a l a b i g n, ?_⟩
      replace hi : i ≤ a.length := hi
      replace hup : apartUpto a b i := hup
      have hz : apartTo a b i 0 := fun j hj => by omega
      have hv := valid_put _ b (valid_put l a hl ha) hb
      have he : a.length ≤ i → putS (putS l a) b = putS (putS l b) a := fun h => apart' l a b hl ha hb (fun c hc d hd => by
        obtain ⟨j, hj, rfl⟩ := List.mem_iff_getElem.1 hc
        obtain ⟨k, hk, rfl⟩ := List.mem_iff_getElem.1 hd
        have := hup j (by omega) k hk
        simpa [List.getD, hj, hk] using this)
      have hm : i < a.length → (a.length - i - 1) * (b.length + 2) + b.length + 1 < (a.length - i) * (b.length + 2) := fun h => by
        rw [show a.length - i = (a.length - i - 1) + 1 by omega, Nat.add_mul]
        simp; omega
      simp +contextual (disch := omega) [TW, LcQ, p7a, p7b, w7a, w7b, c10, c11, c15, c16, Sum.exists, hll, hla, hlb, hl, ha, hb, hup, hz, hm, hv]
      grind
    · obtain ⟨⟨hll, hla, hlb, hl, ha, hb⟩, hi, hk, hup, hto⟩ := hj
      refine ⟨_, r7b l a b i k g n, ?_⟩
      replace hi : i < a.length := hi
      replace hk : k ≤ b.length := hk
      replace hup : apartUpto a b i := hup
      replace hto : apartTo a b i k := hto
      have hs : ord (a.getD i default) (b.getD k default) ≠ 0 → apartTo a b i (k + 1) := fun h j hj => by
        rcases Nat.lt_or_ge j k with h' | h'
        · exact hto j h'
        · rw [show j = k by omega]; exact h
      have hn : b.length ≤ k → apartUpto a b (i + 1) := fun h j hj => by
        rcases Nat.lt_or_ge j i with h' | h'
        · exact hup j h'
        · rw [show j = i by omega, show b.length = k by omega]; exact hto
      have hm : (a.length - (i + 1)) * (b.length + 2) < (a.length - i - 1) * (b.length + 2) + (b.length - k) + 1 := by
        rw [show a.length - (i + 1) = a.length - i - 1 by omega]; omega
      simp +contextual (disch := omega) [TW, LcQ, p7a, p7b, w7a, w7b, c10, c21, Sum.exists, at_getD, -List.getD_eq_getElem?_getD, hll, hla, hlb, hl, ha, hb, hup, hs, hn, hm]
      grind
end Go.Proofs.Ytgjkdmjgefmcmaa
