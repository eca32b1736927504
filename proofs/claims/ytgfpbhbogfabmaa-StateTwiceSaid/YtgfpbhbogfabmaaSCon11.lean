/- A part of the proof: SCon11. -/
import Derived.Test.YtgfpbhbogfabmaaSCon10
import Derived.Test.YtgfpbhbogfabmaaSTrees4
set_option linter.unusedVariables false
set_option linter.unusedSimpArgs false
set_option linter.unnecessarySimpa false
set_option linter.unusedSectionVars false
namespace Go.Proofs.Ytgfpbhbogfabmaa
open Go Go.Vm Go.Proofs
def IDm (l : List MarkR) (i : Nat) : Int := idN (l.getD i default).id 3
def FDm (l : List MarkR) (i : Nat) : Int := fieldN (l.getD i default).field
def STm (l : List MarkR) (i : Nat) : Int := idN (l.getD i default).stamp 4
inductive H11 where
  | a (s : List SlotR) (i : Nat)
  | an (i : Nat)
  | b (s : List SlotR) (i k : Nat)
  | bB (s : List SlotR) (γ : Stamp) (i : Nat)
  | bnB (γ : Stamp) (i : Nat)
def at11 : H11 → List Bool | .a .. => p11a | .an .. => p11an | .b .. => p11b | .bB .. => p11bB | .bnB .. => p11bnB
def vals11 (l : List MarkR) : H11 → List TV
  | .a s i => w11a l s i
  | .an i => w11an l i
  | .b s i k => w11b l s (altsS s (IDm l i) (FDm l i)) i (IDm l i) (FDm l i) (STm l i) k
  | .bB s γ i => w11bB l s γ i (IDm l i) (FDm l i) (STm l i) 0
  | .bnB γ i => w11bnB l γ i (IDm l i) (FDm l i) (STm l i) 0
def good11 (l : List MarkR) (s : List SlotR) (i : Nat) : Prop := stateS s = true ∧ s.length ≤ i ∧ (∀ x ∈ s, x.alts.length ≤ i) ∧ i ≤ l.length ∧ i ≤ 40 ∧ stateOf l = stateGo ((l.take 40).drop i) s
def inv11 (l : List MarkR) : H11 → Prop
  | .a s i => good11 l s i
  | .an i => good11 l [] i
  | .b s i k => good11 l s i ∧ i < l.length ∧ i < 40 ∧ foundS s (IDm l i) (FDm l i) = true ∧ k ≤ altPlace (altsS s (IDm l i) (FDm l i)) (STm l i)
  | .bB s γ i => good11 l s i ∧ i < l.length ∧ i < 40 ∧ foundS s (IDm l i) (FDm l i) = false
  | .bnB γ i => good11 l [] i ∧ i < l.length ∧ i < 40
def mu11 : H11 → Nat
  | .a s i => (40 - i) * 100 + 60
  | .an i => (40 - i) * 100 + 60
  | .b s i k => (40 - i) * 100 + 50 - k
  | .bB s γ i => (40 - i) * 100 + 50
  | .bnB γ i => (40 - i) * 100 + 50
theorem go_step (l : List MarkR) (s : List SlotR) (i : Nat) (h : i < l.length) (h2 : i < 40) : stateGo ((l.take 40).drop i) s = stateGo ((l.take 40).drop (i + 1)) (markS s (l.getD i default)) := by
  have h3 : i < (l.take 40).length := by rw [List.length_take]; omega
  have e : (l.take 40).getD i default = l.getD i default := by
    rw [← at_getD _ i h3, ← at_getD l i h, List.getElem_take]
  rw [drop_getD h3, stateGo, e]
theorem good_step {l : List MarkR} {s : List SlotR} {i : Nat} (hg : good11 l s i) (h : i < l.length) (h2 : i < 40) : good11 l (markS s (l.getD i default)) (i + 1) := by
  obtain ⟨g1, g2, g3, g4, g5, g6⟩ := hg
  have := mark_ok s (l.getD i default) i g1 g2 g3
  exact ⟨this.1, this.2.1, this.2.2, h, h2, by rw [g6, go_step l s i h h2]⟩
theorem mark_same (s : List SlotR) (l : List MarkR) (i k : Nat) (hk : altPlace (altsS s (IDm l i) (FDm l i)) (STm l i) = k) (h : k < (altsS s (IDm l i) (FDm l i)).length) (h2 : ((altsS s (IDm l i) (FDm l i)).getD k default).stamp = STm l i) :
    markS s (l.getD i default) = s := by
  subst hk; exact if_pos ⟨h, h2⟩
theorem mark_set (s : List SlotR) (l : List MarkR) (i k : Nat) (hk : altPlace (altsS s (IDm l i) (FDm l i)) (STm l i) = k) (h : ¬ (k < (altsS s (IDm l i) (FDm l i)).length ∧ ((altsS s (IDm l i) (FDm l i)).getD k default).stamp = STm l i)) :
    markS s (l.getD i default) = setS s (IDm l i) (FDm l i) ((altsS s (IDm l i) (FDm l i)).take k ++ [⟨STm l i, valN (IDm l i) (FDm l i) (STm l i)⟩] ++ (altsS s (IDm l i) (FDm l i)).drop k) := by
  subst hk; exact if_neg h
theorem place_is {o : List AltR} {n : Int} {k : Nat} (h : k ≤ altPlace o n) (h2 : k < o.length → ¬ (o.getD k default).stamp < n) (hko : k ≤ o.length) : altPlace o n = k := by
  rcases Nat.eq_or_lt_of_le h with h | h
  · exact h.symm
  · exfalso
    have := tw_pre (fun a : AltR => decide (a.stamp < n)) o k h
    have h4 : altPlace o n ≤ o.length := tw_le _ o
    exact h2 (by omega) (by simpa using this)
theorem c36k (s : List SlotR) (id field n : Int) (o : List AltR) (k : Nat) (hs : s.Pairwise ltS) (hn : s.length ≤ 1000000) :
    callE Try.prog NoPhi 36 [.agg [.sl 3 (s.map SlotR.row)], .int .i64 id, .int .i64 field, .sl 5 (List.take k (o.map AltR.row) ++ [[.int .i64 n, .int .i64 (modS n 4), .bool (modS (IntKind.wrap .i64 (id + n)) 3 == 0), .str ⟨#[]⟩, .int .i64 (IntKind.wrap .i64 (modS (IntKind.wrap .i64 (field * n)) 2 * id))]] ++ List.drop k (o.map AltR.row))] =
      some (.agg [.sl 3 ((setS s id field (o.take k ++ [⟨n, valN id field n⟩] ++ o.drop k)).map SlotR.row)]) := by
  have := c36 s id field (o.take k ++ [⟨n, valN id field n⟩] ++ o.drop k) hs hn
  rw [← this]
  simp only [List.map_append, List.map_take, List.map_drop, List.map_cons, List.map_nil, AltR.row, valN]
theorem c36n (s : List SlotR) (id field n : Int) (hs : s.Pairwise ltS) (hn : s.length ≤ 1000000) :
    callE Try.prog NoPhi 36 [.agg [.sl 3 (s.map SlotR.row)], .int .i64 id, .int .i64 field, .sl 5 [[.int .i64 n, .int .i64 (modS n 4), .bool (modS (IntKind.wrap .i64 (id + n)) 3 == 0), .str ⟨#[]⟩, .int .i64 (IntKind.wrap .i64 (modS (IntKind.wrap .i64 (field * n)) 2 * id))]]] =
      some (.agg [.sl 3 ((setS s id field [⟨n, valN id field n⟩]).map SlotR.row)]) := by
  have := c36 s id field [⟨n, valN id field n⟩] hs hn
  rw [← this]
  simp only [List.map_cons, List.map_nil, AltR.row, valN]
theorem c11 (l : List MarkR) (hl : l.length ≤ 9223372036854775807) : callE Try.prog NoPhi 11 [.sl 3 (l.map MarkR.row)] = some (.agg [.sl 3 ((stateOf l).map SlotR.row)]) := by
  refine call_heads (ι := H11) Try.f11 hd11 95 Try.func11 (by kernel_rfl) rfl at11 (by rintro (_ | _ | _ | _ | _) <;> rfl) (vals11 l) (inv11 l) mu11 ⟨_, e11 l, ?_⟩ (fun x nx hx g => ?_)
  · simp only [TW, LcQ, true_and]
    exact ⟨.an 0, rfl, rfl, rfl, Nat.le_refl _, by simp, Nat.zero_le _, Nat.zero_le _, rfl⟩
  · rcases x with ⟨s, i⟩ | ⟨i⟩ | ⟨s, i, k⟩ | ⟨s, γ, i⟩ | ⟨γ, i⟩
    · have hx' := hx
      obtain ⟨g1, g2, g3, g4, g5, g6⟩ := hx
      have hs := ((state_iff _).1 g1).2
      by_cases hlt : i < l.length ∧ i < 40
      · obtain ⟨hlt, h40⟩ := hlt
        have h17 := c17 (l.getD i default).id 3 (by omega) (by omega)
        have h17' := c17 (l.getD i default).stamp 4 (by omega) (by omega)
        have h34 := c34 (l.getD i default).field
        have hi40 : (i : Int) < 40 := by omega
        cases hf : foundS s (IDm l i) (FDm l i) with
        | true =>
          have h20 := c20A s (IDm l i) (FDm l i) hs (by omega) hf
          refine ⟨_, r11a l s i g nx, ?_⟩
          have jB : ∃ x, p11b = at11 x ∧ w11b l s (altsS s (IDm l i) (FDm l i)) i (IDm l i) (FDm l i) (STm l i) 0 = vals11 l x ∧ inv11 l x ∧ mu11 x < mu11 (.a s i) := ⟨.b s i 0, rfl, rfl, ⟨hx', hlt, h40, hf, Nat.zero_le _⟩, by simp only [mu11]; omega⟩
          simp only [w11b, p11b] at jB
          simp only [IDm, FDm, STm] at h20 jB
          simp only [TW, LcQ, h17, h17', h34, h20, List.length_map]
          simp (disch := omega) [at_getD, -List.getD_eq_getElem?_getD, -Bool.default_bool, hlt, hi40]
          exact jB
        | false =>
          have h20 := c20B s (IDm l i) (FDm l i) hs (by omega) hf
          refine ⟨_, r11aB l s i g nx, ?_⟩
          have jB : ∀ γ, ∃ x, p11bB = at11 x ∧ w11bB l s γ i (IDm l i) (FDm l i) (STm l i) 0 = vals11 l x ∧ inv11 l x ∧ mu11 x < mu11 (.a s i) := fun γ => ⟨.bB s γ i, rfl, rfl, ⟨hx', hlt, h40, hf⟩, by simp only [mu11]; omega⟩
          simp only [w11bB, p11bB] at jB
          simp only [IDm, FDm, STm] at h20 jB
          simp only [TW, LcQ, h17, h17', h34, h20, List.length_map]
          simp (disch := omega) [at_getD, -List.getD_eq_getElem?_getD, -Bool.default_bool, hlt, hi40]
          exact jB _
      · have hend : stateOf l = s := by
          rw [g6, List.drop_eq_nil_of_le (by rw [List.length_take]; omega)]; rfl
        refine ⟨_, r11a l s i g nx, ?_⟩
        rw [hend]
        by_cases h1 : i < l.length
        · have h2 : ¬ (i : Int) < 40 := by omega
          have h1' : (i : Int) < (l.length : Int) := by omega
          simp [TW, LcQ, h1, h2]
        · have h1' : ¬ (i : Int) < (l.length : Int) := by omega
          simp [TW, LcQ, h1]
    · have hx' := hx
      obtain ⟨g1, g2, g3, g4, g5, g6⟩ := hx
      have hs := ((state_iff _).1 g1).2
      by_cases hlt : i < l.length ∧ i < 40
      · obtain ⟨hlt, h40⟩ := hlt
        have h17 := c17 (l.getD i default).id 3 (by omega) (by omega)
        have h17' := c17 (l.getD i default).stamp 4 (by omega) (by omega)
        have h34 := c34 (l.getD i default).field
        have hi40 : (i : Int) < 40 := by omega
        have h20 := c20B [] (IDm l i) (FDm l i) (by simp) (by simp) rfl
        simp only [List.map_nil] at h20
        refine ⟨_, r11an l i g nx, ?_⟩
        have jB : ∀ γ, ∃ x, p11bnB = at11 x ∧ w11bnB l γ i (IDm l i) (FDm l i) (STm l i) 0 = vals11 l x ∧ inv11 l x ∧ mu11 x < mu11 (.an i) := fun γ => ⟨.bnB γ i, rfl, rfl, ⟨hx', hlt, h40⟩, by simp only [mu11]; omega⟩
        simp only [w11bnB, p11bnB] at jB
        simp only [IDm, FDm, STm] at h20 jB
        simp only [TW, LcQ, h17, h17', h34, h20, List.length_map]
        simp (disch := omega) [at_getD, -List.getD_eq_getElem?_getD, -Bool.default_bool, hlt, hi40]
        exact jB _
      · have hend : stateOf l = [] := by
          rw [g6, List.drop_eq_nil_of_le (by rw [List.length_take]; omega)]; rfl
        refine ⟨_, r11an l i g nx, ?_⟩
        rw [hend]
        by_cases h1 : i < l.length
        · have h2 : ¬ (i : Int) < 40 := by omega
          have h1' : (i : Int) < (l.length : Int) := by omega
          simp [TW, LcQ, h1, h2]
        · have h1' : ¬ (i : Int) < (l.length : Int) := by omega
          simp [TW, LcQ, h1]
    · obtain ⟨hg, hlt, h40, hf, hk⟩ := hx
      have hgs := good_step hg hlt h40
      obtain ⟨g1, g2, g3, g4, g5, g6⟩ := hg
      have hs := ((state_iff _).1 g1).2
      have hol : (altsS s (IDm l i) (FDm l i)).length ≤ 40 := by
        unfold altsS; rw [if_pos hf]
        have := g3 _ (alts_mem hf); omega
      have hpl : altPlace (altsS s (IDm l i) (FDm l i)) (STm l i) ≤ (altsS s (IDm l i) (FDm l i)).length := tw_le _ _
      have hsame := mark_same s l i k
      have hset := mark_set s l i k
      refine ⟨_, r11b l s (altsS s (IDm l i) (FDm l i)) i (IDm l i) (FDm l i) (STm l i) k g nx, ?_⟩
      have jA : ∀ s', markS s (l.getD i default) = s' → ∃ x, p11a = at11 x ∧ w11a l s' (i + 1) = vals11 l x ∧ inv11 l x ∧ mu11 x < mu11 (.b s i k) := fun s' h => by
        subst h; exact ⟨.a _ (i + 1), rfl, rfl, hgs, by simp only [mu11]; omega⟩
      have jK : k < altPlace (altsS s (IDm l i) (FDm l i)) (STm l i) → ∃ x, p11b = at11 x ∧ w11b l s (altsS s (IDm l i) (FDm l i)) i (IDm l i) (FDm l i) (STm l i) (k + 1) = vals11 l x ∧ inv11 l x ∧ mu11 x < mu11 (.b s i k) := fun h =>
        ⟨.b s i (k + 1), rfl, rfl, ⟨⟨g1, g2, g3, g4, g5, g6⟩, hlt, h40, hf, h⟩, by simp only [mu11]; omega⟩
      have h36 := c36k s (IDm l i) (FDm l i) (STm l i) (altsS s (IDm l i) (FDm l i)) k hs (by omega)
      have h35 := c35 (IDm l i) (FDm l i) (STm l i)
      have hwi : IntKind.wrap .i64 ((i : Int) + 1) = ((i + 1 : Nat) : Int) := by rw [wrap64 _ (by omega) (by omega)]; rfl
      have hwk : IntKind.wrap .i64 ((k : Int) + 1) = ((k + 1 : Nat) : Int) := by rw [wrap64 _ (by omega) (by omega)]; rfl
      clear hf hgs
      simp only [valN] at h36 hset
      generalize mu11 (.b s i k) = M at *
      generalize altsS s (IDm l i) (FDm l i) = o at *
      generalize IDm l i = id at *
      generalize FDm l i = field at *
      generalize STm l i = n at *
      by_cases h1 : k < o.length
      · by_cases h2 : (o.getD k default).stamp < n
        · have hk2 : k < altPlace o n := by
            rcases Nat.eq_or_lt_of_le hk with h | h
            · exfalso
              have := tw_at (fun a : AltR => decide (a.stamp < n)) o (by unfold altPlace at h; omega)
              unfold altPlace at h
              rw [← h] at this
              exact of_decide_eq_false this h2
            · exact h
          have := jK hk2
          simp only [w11b, p11b] at this
          simp only [TW, LcQ, List.length_map, hwk]
          simp (disch := omega) [at_getD, -List.getD_eq_getElem?_getD, -Bool.default_bool, h1, h2]
          simpa using this
        · have hpk := place_is hk (fun _ => h2) (by omega)
          by_cases h3 : (o.getD k default).stamp = n
          · have := jA s (hsame hpk h1 h3)
            simp only [w11a, p11a] at this
            simp only [TW, LcQ, List.length_map, hwi, h2, h3, decide_false]
            have h2' : ¬ n < n := by omega
            simp (disch := omega) [at_getD, -List.getD_eq_getElem?_getD, -Bool.default_bool, h1, h3]
            simpa using this
          · have := jA _ (hset hpk (fun h => h3 h.2))
            simp only [w11a, p11a] at this
            simp only [TW, LcQ, List.length_map, List.nil_append, List.drop_zero, List.take_length, take_map_len, h36, h35, hwi, h2, decide_false]
            simp (disch := omega) [at_getD, -List.getD_eq_getElem?_getD, -Bool.default_bool, h1, h3, roomy]
            refine ⟨by omega, by omega, by omega, by omega, by omega, ?_⟩
            simpa using this
      · have hpk := place_is hk (fun h => absurd h h1) (by omega)
        have := jA _ (hset hpk (fun h => h1 h.1))
        simp only [w11a, p11a] at this
        have h1' : ¬ ((k : Int) < (o.length : Int)) := by omega
        simp only [TW, LcQ, List.length_map, List.nil_append, List.drop_zero, List.take_length, take_map_len, h36, h35, hwi, h1', decide_false]
        simp (disch := omega) [at_getD, -List.getD_eq_getElem?_getD, -Bool.default_bool, roomy]
        refine ⟨by omega, by omega, by omega, by omega, by omega, ?_⟩
        simpa using this
    · obtain ⟨hg, hlt, h40, hf⟩ := hx
      have hgs := good_step hg hlt h40
      obtain ⟨g1, g2, g3, g4, g5, g6⟩ := hg
      have hs := ((state_iff _).1 g1).2
      have ho : altsS s (IDm l i) (FDm l i) = [] := by unfold altsS; rw [hf]; rfl
      have hset := mark_set s l i 0 (by rw [ho]; rfl) (by rw [ho]; simp)
      rw [ho] at hset
      simp only [List.take_nil, List.drop_nil, List.nil_append, List.append_nil] at hset
      refine ⟨_, r11bB l s γ i (IDm l i) (FDm l i) (STm l i) 0 g nx, ?_⟩
      have jA : ∃ x, p11a = at11 x ∧ w11a l (setS s (IDm l i) (FDm l i) [⟨STm l i, valN (IDm l i) (FDm l i) (STm l i)⟩]) (i + 1) = vals11 l x ∧ inv11 l x ∧ mu11 x < mu11 (.bB s γ i) := by
        rw [← hset]; exact ⟨.a _ (i + 1), rfl, rfl, hgs, by simp only [mu11]; omega⟩
      have h36 := c36n s (IDm l i) (FDm l i) (STm l i) hs (by omega)
      have h35 := c35 (IDm l i) (FDm l i) (STm l i)
      have hwi : IntKind.wrap .i64 ((i : Int) + 1) = ((i + 1 : Nat) : Int) := by rw [wrap64 _ (by omega) (by omega)]; rfl
      clear hset hgs ho
      simp only [valN] at h36
      simp only [w11a, p11a, valN] at jA
      generalize mu11 (.bB s γ i) = M at *
      simp only [TW, LcQ, List.nil_append, List.drop_zero, List.take_nil, List.drop_nil, List.append_nil, List.take_length, List.length_nil, h36, h35, hwi]
      simp (disch := omega) [-List.getD_eq_getElem?_getD, -Bool.default_bool, roomy]
      simpa using jA
    · obtain ⟨hg, hlt, h40⟩ := hx
      have hgs := good_step hg hlt h40
      obtain ⟨g1, g2, g3, g4, g5, g6⟩ := hg
      have hs := ((state_iff _).1 g1).2
      have ho : altsS [] (IDm l i) (FDm l i) = [] := rfl
      have hset := mark_set [] l i 0 (by rw [ho]; rfl) (by rw [ho]; simp)
      rw [ho] at hset
      simp only [List.take_nil, List.drop_nil, List.nil_append, List.append_nil] at hset
      refine ⟨_, r11bnB l γ i (IDm l i) (FDm l i) (STm l i) 0 g nx, ?_⟩
      have jA : ∃ x, p11a = at11 x ∧ w11a l (setS [] (IDm l i) (FDm l i) [⟨STm l i, valN (IDm l i) (FDm l i) (STm l i)⟩]) (i + 1) = vals11 l x ∧ inv11 l x ∧ mu11 x < mu11 (.bnB γ i) := by
        rw [← hset]; exact ⟨.a _ (i + 1), rfl, rfl, hgs, by simp only [mu11]; omega⟩
      have h36 := c36n [] (IDm l i) (FDm l i) (STm l i) hs (by simp)
      have h35 := c35 (IDm l i) (FDm l i) (STm l i)
      have hwi : IntKind.wrap .i64 ((i : Int) + 1) = ((i + 1 : Nat) : Int) := by rw [wrap64 _ (by omega) (by omega)]; rfl
      clear hset hgs ho
      simp only [valN, List.map_nil] at h36
      simp only [w11a, p11a, valN] at jA
      generalize mu11 (.bnB γ i) = M at *
      simp only [TW, LcQ, List.nil_append, List.drop_zero, List.take_nil, List.drop_nil, List.append_nil, List.take_length, List.length_nil, h36, h35, hwi]
      simp (disch := omega) [-List.getD_eq_getElem?_getD, -Bool.default_bool, roomy]
      simpa using jA
end Go.Proofs.Ytgfpbhbogfabmaa
