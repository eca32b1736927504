/- A part of the proof: SCon5. -/
import Derived.Test.YtgfpbhbogfabmaaSCon4
import Derived.Test.YtgfpbhbogfabmaaSPl2
set_option linter.unusedVariables false
set_option linter.unusedSimpArgs false
set_option linter.unnecessarySimpa false
set_option linter.unusedSectionVars false
namespace Go.Proofs.Ytgfpbhbogfabmaa
open Go Go.Vm Go.Proofs
theorem idN_ok (x n : Int) (h1 : 1 ≤ n) (h2 : n ≤ 1000000) : idS (idN x n) = true := by
  have e1 := mod_lt x 3 (by omega)
  have e2 := mod_lt (IntKind.wrap .i64 (x.tdiv 3)) n h1
  rw [idS_eq]
  unfold idN
  generalize modS (IntKind.wrap .i64 (x.tdiv 3)) n = u at *
  generalize modS x 3 = v at *
  have h3 : ((1 + v) * 1048576 + 1 + u).tmod 1048576 = ((1 + v) * 1048576 + 1 + u) % 1048576 := Int.tmod_eq_emod_of_nonneg (by omega)
  simp only [Bool.and_eq_true, decide_eq_true_eq]
  rw [h3]
  omega
theorem fieldN_ok (x : Int) : fieldS (fieldN x) = true := by
  have e2 := mod_lt (IntKind.wrap .i64 (x.tdiv 5)) 3 (by omega)
  unfold fieldN fieldS
  generalize modS (IntKind.wrap .i64 (x.tdiv 5)) 3 = u at *
  simp only [Bool.or_eq_true, decide_eq_true_eq]
  repeat' split
  all_goals omega
theorem alts_put {old : List AltR} (ho : old.Pairwise (fun a b => a.stamp < b.stamp)) (x : AltR) (hn : ¬ (altPlace old x.stamp < old.length ∧ (old.getD (altPlace old x.stamp) default).stamp = x.stamp)) :
    (old.take (altPlace old x.stamp) ++ [x] ++ old.drop (altPlace old x.stamp)).Pairwise (fun a b => a.stamp < b.stamp) := by
  have hle : altPlace old x.stamp ≤ old.length := tw_le _ old
  have ht : ∀ s ∈ old.take (altPlace old x.stamp), s.stamp < x.stamp := by
    intro s hs
    obtain ⟨i, hi, rfl⟩ := List.getElem_of_mem hs
    rw [List.getElem_take]
    rw [List.length_take] at hi
    rw [at_getD]
    have := tw_pre (fun a : AltR => decide (a.stamp < x.stamp)) old i (by unfold altPlace at hi; omega)
    simpa using this
  have hd : ∀ s ∈ old.drop (altPlace old x.stamp), x.stamp < s.stamp := by
    intro s hs
    obtain ⟨i, hi, rfl⟩ := List.getElem_of_mem hs
    rw [List.getElem_drop]
    rw [List.length_drop] at hi
    have h1 := tw_at (fun a : AltR => decide (a.stamp < x.stamp)) old (by unfold altPlace at hi; omega)
    have h2 := of_decide_eq_false h1
    have h3 : x.stamp < (old.getD (altPlace old x.stamp) default).stamp := by
      have : ¬ (old.getD (altPlace old x.stamp) default).stamp < x.stamp := h2
      have : ¬ (old.getD (altPlace old x.stamp) default).stamp = x.stamp := fun h => hn ⟨by omega, h⟩
      omega
    rcases Nat.eq_zero_or_pos i with rfl | hp
    · rw [at_getD]; exact h3
    · have := (List.pairwise_iff_getElem.1 ho) (altPlace old x.stamp) (altPlace old x.stamp + i) (by omega) (by omega) (by omega)
      rw [at_getD old (altPlace old x.stamp) (by omega)] at this
      omega
  rw [List.pairwise_append]
  refine ⟨?_, ho.sublist (List.drop_sublist _ _), fun a ha b hb => ?_⟩
  · rw [List.pairwise_append]
    refine ⟨ho.sublist (List.take_sublist _ _), by simp, fun a ha b hb => ?_⟩
    simp only [List.mem_singleton] at hb; subst hb; exact ht a ha
  · rw [List.mem_append] at ha
    have h2 := hd b hb
    rcases ha with ha | ha
    · have := ht a ha; omega
    · simp only [List.mem_singleton] at ha; subst ha; exact h2
theorem alts_mem {l : List SlotR} {id field : Int} (h : foundS l id field = true) : l.getD (placeS l id field) default ∈ l := by
  simp only [foundS, Bool.and_eq_true, decide_eq_true_eq] at h
  exact getD_mem' h.1.1
/-- A mark keeps a state valid; at most one alternative more. -/
theorem mark_ok (l : List SlotR) (m : MarkR) (n : Nat) (hl : stateS l = true) (hlen : l.length ≤ n) (ha : ∀ s ∈ l, s.alts.length ≤ n) :
    stateS (markS l m) = true ∧ (markS l m).length ≤ n + 1 ∧ ∀ s ∈ markS l m, s.alts.length ≤ n + 1 := by
  unfold markS
  simp only
  split
  · exact ⟨hl, by omega, fun s hs => by have := ha s hs; omega⟩
  · rename_i hn
    have hl' := (state_iff l).1 hl
    generalize hid : idN m.id 3 = id at *
    generalize hfd : fieldN m.field = field at *
    generalize hst : idN m.stamp 4 = stamp at *
    have hold : (altsS l id field).Pairwise (fun a b => a.stamp < b.stamp) ∧ (∀ a ∈ altsS l id field, idS a.stamp = true) ∧ (altsS l id field).length ≤ n := by
      unfold altsS
      split
      · rename_i hf
        have hm := alts_mem hf
        have := (alts_iff _).1 (hl'.1 _ hm).2.2.2
        exact ⟨this.2, this.1, ha _ hm⟩
      · exact ⟨by simp, by simp, by simp⟩
    have hle : altPlace (altsS l id field) stamp ≤ (altsS l id field).length := tw_le _ _
    have hnew := alts_put hold.1 (AltR.mk stamp (valN id field stamp)) hn
    simp only at hnew
    have hlen2 : ((altsS l id field).take (altPlace (altsS l id field) stamp) ++ [AltR.mk stamp (valN id field stamp)] ++ (altsS l id field).drop (altPlace (altsS l id field) stamp)).length = (altsS l id field).length + 1 := by
      simp; omega
    have hids : ∀ a ∈ (altsS l id field).take (altPlace (altsS l id field) stamp) ++ [AltR.mk stamp (valN id field stamp)] ++ (altsS l id field).drop (altPlace (altsS l id field) stamp), idS a.stamp = true := by
      intro a h
      simp only [List.mem_append, List.mem_singleton] at h
      rcases h with (h | rfl) | h
      · exact hold.2.1 a (List.mem_of_mem_take h)
      · rw [← hst]; exact idN_ok _ _ (by omega) (by omega)
      · exact hold.2.1 a (List.mem_of_mem_drop h)
    generalize (altsS l id field).take (altPlace (altsS l id field) stamp) ++ [AltR.mk stamp (valN id field stamp)] ++ (altsS l id field).drop (altPlace (altsS l id field) stamp) = al at *
    refine ⟨?_, by have := set_len l id field al; omega, fun s hs => ?_⟩
    · rw [state_iff]
      refine ⟨fun s hs => ?_, set_asc hl'.2 _ _ _⟩
      rcases set_mem hs with h | ⟨rfl, h⟩
      · exact hl'.1 s h
      · refine ⟨by rw [← hid]; exact idN_ok _ _ (by omega) (by omega), by rw [← hfd]; exact fieldN_ok _, h, ?_⟩
        rw [alts_iff]; exact ⟨hids, hnew⟩
    · rcases set_mem hs with h | ⟨rfl, h⟩
      · have := ha s h; omega
      · simp only; omega
theorem go_ok : ∀ (ms : List MarkR) (l : List SlotR) (n : Nat), stateS l = true → l.length ≤ n → (∀ s ∈ l, s.alts.length ≤ n) → stateS (stateGo ms l) = true ∧ (stateGo ms l).length ≤ n + ms.length ∧ ∀ s ∈ stateGo ms l, s.alts.length ≤ n + ms.length
  | [], l, n, h1, h2, h3 => ⟨h1, by simpa [stateGo] using h2, by simpa [stateGo] using h3⟩
  | m :: ms, l, n, h1, h2, h3 => by
    have := mark_ok l m n h1 h2 h3
    have := go_ok ms (markS l m) (n + 1) this.1 this.2.1 this.2.2
    simp only [stateGo, List.length_cons]
    rw [show n + (ms.length + 1) = n + 1 + ms.length by omega]
    exact this
theorem of_ok (l : List MarkR) : stateS (stateOf l) = true ∧ (stateOf l).length ≤ 40 ∧ ∀ s ∈ stateOf l, s.alts.length ≤ 40 := by
  have := go_ok (l.take 40) [] 0 rfl (by simp) (by simp)
  have hl : (l.take 40).length ≤ 40 := by rw [List.length_take]; omega
  exact ⟨this.1, by unfold stateOf; omega, fun s hs => by have := this.2.2 s hs; omega⟩
theorem c46 (l : List SlotR) (id field : Int) (hl : l.Pairwise ltS) (hn : l.length ≤ 1000000) : callE Try.prog NoPhi 46 [.agg [.sl 3 (l.map SlotR.row)], .int .i64 id, .int .i64 field] = some (.int .i64 (placeS l id field : Nat)) := by
  have hple := place_le l id field
  refine call_loop Try.f46 hd46 39 Try.func46 (by kernel_rfl) rfl p46 rfl (fun x : Nat × Nat => w46 l id field x.1 x.2) (fun x => x.1 ≤ placeS l id field ∧ placeS l id field ≤ x.2 ∧ x.2 ≤ l.length) (fun x => x.2 - x.1) ⟨_, e46 l id field, ?_⟩ (fun x nx ⟨h1, h2, h3⟩ g => ⟨_, r46 l id field x.1 x.2 g nx, ?_⟩)
  · simp only [TW, LcQ, p46, true_and, List.length_map]
    exact ⟨(0, l.length), rfl, Nat.zero_le _, hple, Nat.le_refl _⟩
  · obtain ⟨lo, hi⟩ := x
    simp only at h1 h2 h3 ⊢
    by_cases hlt : lo < hi
    · have hd : Int.tdiv ((lo : Int) + (hi : Int)) 2 = (((lo + hi) / 2 : Nat) : Int) := by
        rw [Int.tdiv_eq_ediv_of_nonneg (by omega)]; omega
      have hw1 : IntKind.wrap .i64 ((lo : Int) + (hi : Int)) = (lo : Int) + (hi : Int) := wrap64 _ (by omega) (by omega)
      have hw2 : IntKind.wrap .i64 (((lo + hi) / 2 : Nat) : Int) = (((lo + hi) / 2 : Nat) : Int) := wrap64 _ (by omega) (by omega)
      simp only [TW, LcQ, p46, hw1, hd, hw2, List.length_map]
      have hm1 : lo ≤ (lo + hi) / 2 := by omega
      have hm2 : (lo + hi) / 2 < hi := by omega
      generalize (lo + hi) / 2 = m at *
      have hw3 : IntKind.wrap .i64 ((m : Int) + 1) = ((m + 1 : Nat) : Int) := by rw [wrap64 _ (by omega) (by omega)]; rfl
      have jA : ordP (l.getD m default).id (l.getD m default).field id field < 0 → ∃ j : Nat × Nat, w46 l id field (m + 1) hi = w46 l id field j.1 j.2 ∧ (j.1 ≤ placeS l id field ∧ placeS l id field ≤ j.2 ∧ j.2 ≤ l.length) ∧ j.2 - j.1 < hi - lo := fun h => by
        refine ⟨(m + 1, hi), rfl, ⟨?_, h2, h3⟩, by simp only; omega⟩
        by_cases hc : placeS l id field ≤ m
        · exact absurd h (place_post hl hc (by omega))
        · simp only; omega
      have jB : ¬ ordP (l.getD m default).id (l.getD m default).field id field < 0 → ∃ j : Nat × Nat, w46 l id field lo m = w46 l id field j.1 j.2 ∧ (j.1 ≤ placeS l id field ∧ placeS l id field ≤ j.2 ∧ j.2 ≤ l.length) ∧ j.2 - j.1 < hi - lo := fun h => by
        refine ⟨(lo, m), rfl, ⟨h1, ?_, by simp only; omega⟩, by simp only; omega⟩
        by_cases hc : m < placeS l id field
        · exact absurd (place_pre hc) h
        · simp only; omega
      simp only [w46] at jA jB
      rw [hw3]
      have hml : m < l.length := by omega
      by_cases ho : ordP (l.getD m default).id (l.getD m default).field id field < 0
      · have := jA ho
        simp (disch := omega) [hlt, hml, c32, at_getD, -List.getD_eq_getElem?_getD, -Bool.default_bool, ho]
        simpa [w46] using this
      · have := jB ho
        simp (disch := omega) [hlt, hml, c32, at_getD, -List.getD_eq_getElem?_getD, -Bool.default_bool, ho]
        simpa [w46] using this
    · have h4 : lo = placeS l id field := by omega
      have h5 : hi = placeS l id field := by omega
      subst h4; subst h5
      simp [TW, LcQ]
end Go.Proofs.Ytgfpbhbogfabmaa
