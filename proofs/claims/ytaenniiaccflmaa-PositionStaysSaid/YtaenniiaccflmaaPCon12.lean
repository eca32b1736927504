/- A part of the proof: PCon12. -/
import Derived.Test.YtaenniiaccflmaaPCon11
set_option linter.unusedVariables false
set_option linter.unusedSimpArgs false
set_option linter.unnecessarySimpa false
set_option linter.unusedSectionVars false
namespace Go.Proofs.Ytaenniiaccflmaa
open Go Go.Vm Go.Proofs
theorem pre_set {α : Type} (pre : List α) (n i : Nat) (e x : α) (hp : pre.length = i) (h : i < n) : (pre ++ List.replicate (n - i) e).set i x = (pre ++ [x]) ++ List.replicate (n - (i + 1)) e := by
  rw [List.set_append_right _ _ (by omega), hp, Nat.sub_self, show n - i = (n - (i + 1)) + 1 by omega, List.replicate_succ]; simp
inductive H24 where
  | a (i : Nat) (γ δ : Stamp) (pre : List ByteArray) (last : ByteArray)
  | b (i q : Nat) (γ δ : Stamp) (pre : List ByteArray) (last : ByteArray)
def at24 : H24 → List Bool | .a .. => p24a | .b .. => p24b
def outK (l pre : List ByteArray) (i : Nat) : List ByteArray := pre ++ List.replicate (l.length - i) ⟨#[]⟩
def vals24 (l : List ByteArray) : H24 → List TV
  | .a i γ δ pre last => w24a l γ δ (keepS l) (outK l pre i) last i
  | .b i q γ δ pre last => w24b l γ δ (keepS l) (outK l pre i) last (firstStay ((ZK l).drop q)) i ((q : Int) - 1)
def inv24 (l : List ByteArray) : H24 → Prop
  | .a i γ δ pre last => i ≤ l.length ∧ pre.length = i ∧ RK l = (rekG betK ((ZK l).drop i) last).map (pre ++ ·)
  | .b i q γ δ pre last => i < l.length ∧ (keepS l).getD i default = false ∧ i + 1 ≤ q ∧ q ≤ l.length ∧ pre.length = i ∧ RK l = (rekG betK ((ZK l).drop i) last).map (pre ++ ·)
def mu24 (l : List ByteArray) : H24 → Nat
  | .a i γ δ pre last => (l.length - i) * (l.length + 2)
  | .b i q γ δ pre last => (l.length - i - 1) * (l.length + 2) + q + 1
theorem c24 (l : List ByteArray) (hl : l.length ≤ 400) : callE Try.prog NoPhi 24 [.sl 1 (l.map strRow)] = some (.own (0, 0) 9 1 ((rekS l).map strRow)) := by
  have hk := keep_len l
  have hrk : rekS l = (RK l).getD (spreadS l.length) := by unfold rekS; rw [if_pos hl]; rfl
  refine call_heads (ι := H24) Try.f24 hd24 71 Try.func24 (by kernel_rfl) rfl at24 (by rintro (_ | _) <;> rfl) (vals24 l) (inv24 l) (mu24 l) ⟨_, e24 l, ?_⟩ (fun x nx hx g => ?_)
  · have h22 := c22 l (by omega)
    have h4 : ¬ ((l.length : Int) > 400) := by omega
    have h3 : List.replicate l.length [TV.str ⟨#[]⟩] = (List.replicate l.length (⟨#[]⟩ : ByteArray)).map strRow := by simp [strRow]
    simp only [TW, LcQ, List.length_map, h22, h4, decide_false, h3]
    refine ⟨fun h => (by cases h), fun _ => ⟨trivial, by simp; omega, by simp, by simp [roomy]; omega, trivial, .a 0 (8, 0) (11, 0) [] ⟨#[]⟩, rfl, ?_, Nat.zero_le _, rfl, ?_⟩⟩
    · simp [vals24, w24a, outK]
    · simp [RK]
  · rcases x with ⟨i, γ, δ, pre, last⟩ | ⟨i, q, γ, δ, pre, last⟩
    · obtain ⟨hi, hp, hR⟩ := hx
      refine ⟨_, r24a l γ δ (keepS l) (outK l pre i) last i g nx, ?_⟩
      have hol : (outK l pre i).length = l.length := by unfold outK; simp; omega
      by_cases hlt : i < l.length
      · have hz := ZK_drop l i hlt
        have hmg : (List.map boolRow (keepS l)).getD i default = boolRow ((keepS l).getD i default) := by simp [List.getD, hk, hlt]
        have hmg2 : (List.map strRow l).getD i default = strRow (l.getD i default) := by simp [List.getD, hlt]
        have hmg3 : (List.map strRow (outK l pre i)).getD i default = strRow ((outK l pre i).getD i default) := by simp [List.getD, hol, hlt]
        have hw : IntKind.wrap .i64 ((i : Int) + 1) = ((i + 1 : Nat) : Int) := by rw [wrap64 _ (by omega) (by omega)]; rfl
        have hw2 : IntKind.wrap .i64 ((l.length : Int) - 1) = (l.length : Int) - 1 := wrap64 _ (by omega) (by omega)
        have hmul : (l.length - (i + 1)) * (l.length + 2) + (l.length + 2) = (l.length - i) * (l.length + 2) := by
          rw [show l.length - i = (l.length - (i + 1)) + 1 by omega, Nat.add_mul, Nat.one_mul]
        have hset : (outK l pre i).set i (l.getD i default) = outK l (pre ++ [l.getD i default]) (i + 1) := pre_set pre l.length i _ _ hp hlt
        have jA : (keepS l).getD i default = true → ∃ x, p24a = at24 x ∧ w24a l γ δ (keepS l) ((outK l pre i).set i (l.getD i default)) (l.getD i default) (i + 1) = vals24 l x ∧ inv24 l x ∧ mu24 l x < mu24 l (.a i γ δ pre last) := fun h =>
          ⟨.a (i + 1) γ δ (pre ++ [l.getD i default]) (l.getD i default), rfl, by rw [hset]; rfl, ⟨hlt, by simp; exact hp, by
            rw [hR, hz, h, rekG, Option.map_map]; congr 1; funext r; simp⟩, by simp only [mu24]; omega⟩
        have jB : (keepS l).getD i default = false → ∃ x, p24b = at24 x ∧ w24b l γ δ (keepS l) (outK l pre i) last ⟨#[]⟩ i ((l.length : Int) - 1) = vals24 l x ∧ inv24 l x ∧ mu24 l x < mu24 l (.a i γ δ pre last) := fun h =>
          ⟨.b i l.length γ δ pre last, rfl, by simp only [vals24]; rw [List.drop_eq_nil_of_le (by rw [ZK_len]; exact Nat.le_refl _)]; rfl, ⟨hlt, h, hlt, Nat.le_refl _, hp, hR⟩, by simp only [mu24]; rw [show l.length - i - 1 = l.length - (i + 1) by omega]; omega⟩
        simp only [w24a, w24b, p24a, p24b, List.length_map, List.map_set] at jA jB
        simp only [TW, LcQ, List.length_map, Nat.zero_add, hw, hw2, set_str]
        have hil : i < (keepS l).length := by omega
        have hio : i < (outK l pre i).length := by omega
        clear hset hmul hR hz
        generalize outK l pre i = O at *
        simp +contextual (disch := omega) [at_getD, -List.getD_eq_getElem?_getD, -Bool.default_bool, hlt, hk, hol, hmg, hmg2, hmg3]
        exact ⟨jA, jB⟩
      · have hge : l.length ≤ i := by omega
        have hres : rekS l = outK l pre i := by
          rw [hrk, hR, List.drop_eq_nil_of_le (by rw [ZK_len]; exact hge), outK, show l.length - i = 0 by omega]; simp [rekG]
        have h1 : ¬ ((i : Int) < (l.length : Int)) := by omega
        simp only [TW, LcQ, List.length_map, h1, decide_false, hres]
        simp
    · obtain ⟨hil, hst, hiq, hql, hp, hR⟩ := hx
      refine ⟨_, r24b l γ δ (keepS l) (outK l pre i) last (firstStay ((ZK l).drop q)) i _ g nx, ?_⟩
      have hol : (outK l pre i).length = l.length := by unfold outK; simp; omega
      have hz := ZK_drop l i hil
      rw [hst] at hz
      by_cases hq : i + 2 ≤ q
      · obtain ⟨k, rfl⟩ : ∃ k, q = k + 1 := ⟨q - 1, by omega⟩
        have e1 : ((k + 1 : Nat) : Int) - 1 = (k : Int) := by omega
        have hwk : IntKind.wrap .i64 ((k : Int) - 1) = (k : Int) - 1 := wrap64 _ (by omega) (by omega)
        have hzk := ZK_drop l k (by omega)
        have jT : (keepS l).getD k default = true → ∃ x, p24b = at24 x ∧ w24b l γ δ (keepS l) (outK l pre i) last (l.getD k default) i ((k : Int) - 1) = vals24 l x ∧ inv24 l x ∧ mu24 l x < mu24 l (.b i (k + 1) γ δ pre last) := fun h =>
          ⟨.b i k γ δ pre last, rfl, by simp only [vals24]; rw [hzk, h]; rfl, ⟨hil, hst, by omega, by omega, hp, hR⟩, by simp only [mu24]; omega⟩
        have jF : (keepS l).getD k default = false → ∃ x, p24b = at24 x ∧ w24b l γ δ (keepS l) (outK l pre i) last (firstStay ((ZK l).drop (k + 1))) i ((k : Int) - 1) = vals24 l x ∧ inv24 l x ∧ mu24 l x < mu24 l (.b i (k + 1) γ δ pre last) := fun h =>
          ⟨.b i k γ δ pre last, rfl, by simp only [vals24]; rw [hzk, h]; rfl, ⟨hil, hst, by omega, by omega, hp, hR⟩, by simp only [mu24]; omega⟩
        have hmg : (List.map boolRow (keepS l)).getD k default = boolRow ((keepS l).getD k default) := by simp [List.getD, hk, show k < l.length by omega]
        have hmg2 : (List.map strRow l).getD k default = strRow (l.getD k default) := by simp [List.getD, show k < l.length by omega]
        rw [e1]
        simp only [w24b, p24b, List.length_map] at jT jF
        simp only [TW, LcQ, List.length_map, Nat.zero_add, Int.toNat_natCast, hwk]
        have hkl : k < (keepS l).length := by omega
        have hkl2 : k < l.length := by omega
        have hik : i < k := by omega
        have hik2 : ((k : Int) > (i : Int)) := by omega
        generalize firstStay ((ZK l).drop (k + 1)) = F at *
        clear hR hz hzk
        generalize outK l pre i = O at *
        simp +contextual (disch := omega) [at_getD, -List.getD_eq_getElem?_getD, -Bool.default_bool, hk, hkl, hkl2, hik, hmg, hmg2]
        exact ⟨jT, jF⟩
      · have hqe : q = i + 1 := by omega
        subst hqe
        have hw : IntKind.wrap .i64 ((i : Int) + 1) = ((i + 1 : Nat) : Int) := by rw [wrap64 _ (by omega) (by omega)]; rfl
        generalize hF : firstStay ((ZK l).drop (i + 1)) = F at *
        have hset : (outK l pre i).set i (betK last F).1 = outK l (pre ++ [(betK last F).1]) (i + 1) := pre_set pre l.length i _ _ hp hil
        have hmul : (l.length - (i + 1)) * (l.length + 2) = (l.length - i - 1) * (l.length + 2) := by rw [show l.length - (i + 1) = l.length - i - 1 by omega]
        have jN : (betK last F).2 = 0 → ∃ x, p24a = at24 x ∧ w24a l γ δ (keepS l) ((outK l pre i).set i (betK last F).1) (betK last F).1 (i + 1) = vals24 l x ∧ inv24 l x ∧ mu24 l x < mu24 l (.b i (i + 1) γ δ pre last) := fun h0 =>
          ⟨.a (i + 1) γ δ (pre ++ [(betK last F).1]) (betK last F).1, rfl, by rw [hset]; rfl, ⟨hil, by simp; exact hp, by
            rw [hR, hz, rekG, hF, if_pos h0, Option.map_map]; congr 1; funext r; simp⟩, by simp only [mu24]; omega⟩
        have hS : (betK last F).2 ≠ 0 → rekS l = spreadS l.length := fun h0 => by
          rw [hrk, hR, hz, rekG, hF, if_neg h0]; rfl
        have c1 := c13 last F
        have c2 := c18 (l.length : Int) (by omega)
        have eb : ((betK last F).2 != 0) = !decide ((betK last F).2 = 0) := by
          rw [Bool.eq_iff_iff]; simp
        have hmg3 : (List.map strRow (outK l pre i)).getD i default = strRow ((outK l pre i).getD i default) := by simp [List.getD, hol, hil]
        have hgt : ¬ (((i + 1 : Nat) : Int) - 1 > (i : Int)) := by omega
        simp only [w24a, p24a, List.length_map, List.map_set] at jN
        simp only [TW, LcQ, List.length_map, Nat.zero_add, Int.toNat_natCast, hw, c1, c2, eb, hgt, decide_false, set_str]
        have hio : i < (outK l pre i).length := by omega
        clear hR hz hset hmul c1 c2 eb
        generalize outK l pre i = O at *
        simp +contextual (disch := omega) [at_getD, -List.getD_eq_getElem?_getD, hol, hil, hmg3]
        exact ⟨fun h => by rw [hS h], fun h => jN h⟩
end Go.Proofs.Ytaenniiaccflmaa
