/- A part of the proof: PCon3. -/
import Derived.Test.YtaenniiaccflmaaPCon2
set_option linter.unusedVariables false
set_option linter.unusedSimpArgs false
set_option linter.unnecessarySimpa false
set_option linter.unusedSectionVars false
namespace Go.Proofs.Ytaenniiaccflmaa
open Go Go.Vm Go.Proofs
theorem bts_two (a b : Int) (ha : 0 ≤ a ∧ a < 256) (hb : 0 ≤ b ∧ b < 256) : bts (ofB [a, b]) = [a, b] := by
  refine bts_ofB _ fun n hn => ?_
  simp at hn; rcases hn with rfl | rfl <;> assumption
theorem spread_len {n : Int} (h0 : 0 ≤ n) (h4 : n ≤ 400) : ((spreadS n).length : Int) = n := by
  unfold spreadS; rw [if_pos ⟨h0, h4⟩]; simp; omega
theorem spread_get {n : Int} {i : Nat} (hi : i < (spreadS n).length) : 0 ≤ n ∧ n ≤ 400 ∧ (i : Int) + 1 ≤ n ∧ (spreadS n).getD i default = spreadK (650 / (n + 1)) i := by
  unfold spreadS at hi ⊢
  split at hi
  · rename_i h
    simp at hi
    rw [if_pos h]
    refine ⟨h.1, h.2, by omega, ?_⟩
    rw [← at_getD _ _ (by simp; omega)]
    simp
  · simp at hi
theorem spread_bts {n : Int} {i : Nat} (hi : i < (spreadS n).length) : ∃ at1, ((i : Int) + 1) * (650 / (n + 1)) = at1 ∧ 0 ≤ at1 ∧ at1 < 650 ∧ bts ((spreadS n).getD i default) = [97 + at1 / 25, 98 + at1 % 25] := by
  obtain ⟨h0, h4, h1, h2⟩ := spread_get hi
  obtain ⟨at1, ha, hl1, hl2, _, _, _, hk⟩ := spread_at h0 h4 i h1
  exact ⟨at1, ha, hl1, hl2, by rw [h2, hk, bts_two _ _ (by omega) (by omega)]⟩
theorem spread_valid {n : Int} {i : Nat} (hi : i < (spreadS n).length) : validK ((spreadS n).getD i default) = true := by
  obtain ⟨at1, _, hl1, hl2, hb⟩ := spread_bts hi
  unfold validK
  rw [hb]
  simp [validL, allTo]
  omega
theorem spread_less {n : Int} {i : Nat} (h : 0 < i) (hi : i < (spreadS n).length) : Op.bytesLess ((spreadS n).getD (i - 1) default).toList ((spreadS n).getD i default).toList = true := by
  obtain ⟨a, ha, ha1, ha2, hb⟩ := spread_bts hi
  obtain ⟨b, hb', hb1, hb2, hc⟩ := spread_bts (n := n) (i := i - 1) (by omega)
  obtain ⟨h0, h4, _, _⟩ := spread_get hi
  have hd : 1 ≤ 650 / (n + 1) := (Int.le_ediv_iff_mul_le (by omega)).2 (by omega)
  have : b < a := by
    have e : ((i - 1 : Nat) : Int) + 1 = i := by omega
    rw [e] at hb'
    rw [Int.add_mul, hb', Int.one_mul] at ha
    omega
  rw [less_eq, hb, hc]
  simp [ltL]
  omega
theorem l4 (n : Int) (hb : -9223372036854775808 ≤ n ∧ n ≤ 9223372036854775807) : callE Try.prog NoPhi 4 [.int .i64 n] = some (.bool true) := by
  have hlen : (spreadS n).length ≤ 400 := by
    by_cases h : 0 ≤ n ∧ n ≤ 400
    · have := spread_len h.1 h.2; omega
    · unfold spreadS; rw [if_neg h]; simp
  refine call_loop (ι := Nat × Stamp) Try.f4 hd4 56 Try.func4 (by kernel_rfl) rfl p4 rfl (fun x => w4 n x.1 x.2 (spreadS n)) (fun x => x.1 ≤ (spreadS n).length) (fun x => (spreadS n).length - x.1) ⟨_, e4 n, ?_⟩ (fun x nx hi g => ⟨_, r4 n x.1 x.2 (spreadS n) g nx, ?_⟩)
  · simp (disch := omega) [TW, LcQ, p4, w4, c16, hb]
  · obtain ⟨i, ⟨γ1, γ2⟩⟩ := x
    replace hi : i ≤ (spreadS n).length := hi
    have h1 : i < (spreadS n).length → validK ((spreadS n).getD i default) = true := spread_valid
    have h2 : 0 < i → i < (spreadS n).length → Op.bytesLess ((spreadS n).getD (i - 1) default).toList ((spreadS n).getD i default).toList = true := spread_less
    have h3 : 0 ≤ n → n ≤ 400 → ((spreadS n).length : Int) = n := spread_len
    have h18 := c18 n hb
    simp only [TW, LcQ]
    simp +contextual (disch := omega) [p4, w4, c11, c14, c17, h18, at_getD, -List.getD_eq_getElem?_getD, h1, h2, h3]
    intro h
    refine ⟨fun h0 => by omega, fun h0 => by subst h0; exact ⟨h1 h, by omega, by omega⟩⟩
theorem mixed : Try.prog.follows .mixedOrders = true := by kernel_rfl
theorem own : ownKnob Try.prog.godebug = none := by kernel_rfl
theorem noPhi_ok : ∀ f args r, NoPhi f args = some r → Ctr Try.prog f args r := fun _ _ _ h => by cases h
theorem int_arg {v : TV} (h : TyS (.int .i64) [v]) : ∃ n : Int, v = .int .i64 n ∧ -9223372036854775808 ≤ n ∧ n ≤ 9223372036854775807 := by
  obtain ⟨n, h1, h2, h3⟩ := h
  refine ⟨n, by simpa using h1, ?_, ?_⟩
  · simpa [IntKind.min, IntKind.signed, IntKind.bits] using h2
  · simpa [IntKind.max, IntKind.signed, IntKind.bits] using h3
theorem str_arg {v : TV} (h : TyS .str [v]) : ∃ s : ByteArray, v = .str s ∧ s.size ≤ 9223372036854775807 := by
  obtain ⟨s, h1, h2⟩ := h
  exact ⟨s, by simpa using h1, h2⟩
theorem strs_arg {v : TV} (h : TyS (.slice 1 .str) [v]) : ∃ l : List ByteArray, v = .sl 1 (l.map strRow) ∧ ∀ s ∈ l, s.size ≤ 9223372036854775807 := by
  obtain ⟨xs, h1, _, h3⟩ := h
  have key : ∀ xs : List (List TV), (∀ r ∈ xs, TyS .str r) → ∃ l : List ByteArray, xs = l.map strRow ∧ ∀ s ∈ l, s.size ≤ 9223372036854775807 := by
    intro xs
    induction xs with
    | nil => intro _; exact ⟨[], rfl, by simp⟩
    | cons x xs ih =>
      intro h
      obtain ⟨s, rfl, hs⟩ := h x (by simp)
      obtain ⟨l, rfl, hl⟩ := ih fun r hr => h r (by simp [hr])
      exact ⟨s :: l, rfl, by simpa using ⟨hs, hl⟩⟩
  obtain ⟨l, rfl, hl⟩ := key xs h3
  exact ⟨l, by simpa using h1, hl⟩
theorem bools_arg {v : TV} (h : TyS (.slice 1 .bool) [v]) : ∃ l : List Bool, v = .sl 1 (l.map boolRow) ∧ l.length ≤ 9223372036854775807 := by
  obtain ⟨xs, h1, h2, h3⟩ := h
  obtain ⟨l, rfl⟩ := rows_map boolRow xs fun r hr => by obtain ⟨b, rfl⟩ := h3 r hr; exact ⟨b, rfl⟩
  exact ⟨l, by simpa using h1, by simpa using h2⟩
end Go.Proofs.Ytaenniiaccflmaa
