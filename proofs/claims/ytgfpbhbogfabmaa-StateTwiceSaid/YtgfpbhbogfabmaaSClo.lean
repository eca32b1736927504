/- A part of the proof: SClo. -/
import Derived.Test.YtgfpbhbogfabmaaSCon1
import Derived.Test.YtgfpbhbogfabmaaVm32
set_option linter.unusedVariables false
set_option linter.unusedSimpArgs false
set_option linter.unnecessarySimpa false
set_option linter.unusedSectionVars false
namespace Go.Proofs.Ytgfpbhbogfabmaa
open Go Go.Vm Go.Proofs
theorem mixed : Try.prog.follows .mixedOrders = true := by kernel_rfl
theorem clo52 (xs : List (List TV)) (h : xs.length ≤ 1000000) : Ctr Try.prog 52 [.sl 6 xs] (.own (0, 0) 44 6 xs) := by
  refine nil_ctr (T := 29) (e := 44) (p := 3) (q := 4) (s1 := [.sl 6 xs, .tup [], .own (1, 0) 44 6 [], .tup [], .tup [], .tup [], .tup [], .tup []]) (n1 := 2)
    (s2 := [.sl 6 xs, .tup [], .own (1, 0) 44 6 [], .sl 6 xs, .tup [], .tup [], .tup [], .tup []]) (rA := (.sl 6 xs, [])) mixed (by kernel_rfl) Try.func52 rfl (by kernel_rfl) (by decide) rfl rfl rfl rfl ?_ ?_ rfl rfl rfl ?_ ?_
  · kernel_rfl
  · kernel_rfl
  · rintro rfl
    refine W_rcut .done ?_
    rw [show runK Try.prog noCall (resSlots Try.f52.results.toList) _ [] _ .done (retK Try.prog Try.f52) = .ret (.res (some (.own (0, 0) 44 6 []))) by kernel_rfl]
    rfl
  · refine W_cut (.yes (.yes .done)) ?_
    have hr : roomy (0 + xs.length) (bytesT Try.prog 44) = true := by
      rw [show bytesT Try.prog 44 = 56 by kernel_rfl]; simp [roomy]; omega
    rw [show runK Try.prog noCall (resSlots Try.f52.results.toList) _ [] _ (.yes (.yes .done)) (cutK Try.prog Try.f52 []) = .need (decide ((4, 0) = ((4, 0) : Nat × Nat) ∧ 44 = 44 ∧ 6 = 6)) (.need (decide (0 = 0 ∧ 44 = 44 ∧ 6 = 6) && roomy (0 + xs.length) (bytesT Try.prog 44)) (.ret (.res (some (.own (0, 0) 44 6 ([] ++ xs)))))) by kernel_rfl]
    exact ⟨by simp, by rw [hr]; rfl, rfl⟩
theorem clo40 (xs : List (List TV)) (h : xs.length ≤ 1000000) : Ctr Try.prog 40 [.sl 5 xs] (.own (0, 0) 42 5 xs) := by
  refine nil_ctr (T := 36) (e := 42) (p := 3) (q := 4) (s1 := [.sl 5 xs, .tup [], .own (1, 0) 42 5 [], .tup [], .tup [], .tup [], .tup [], .tup []]) (n1 := 2)
    (s2 := [.sl 5 xs, .tup [], .own (1, 0) 42 5 [], .sl 5 xs, .tup [], .tup [], .tup [], .tup []]) (rA := (.sl 5 xs, [])) mixed (by kernel_rfl) Try.func40 rfl (by kernel_rfl) (by decide) rfl rfl rfl rfl ?_ ?_ rfl rfl rfl ?_ ?_
  · kernel_rfl
  · kernel_rfl
  · rintro rfl
    refine W_rcut .done ?_
    rw [show runK Try.prog noCall (resSlots Try.f40.results.toList) _ [] _ .done (retK Try.prog Try.f40) = .ret (.res (some (.own (0, 0) 42 5 []))) by kernel_rfl]
    rfl
  · refine W_cut (.yes (.yes .done)) ?_
    have hr : roomy (0 + xs.length) (bytesT Try.prog 42) = true := by
      rw [show bytesT Try.prog 42 = 48 by kernel_rfl]; simp [roomy]; omega
    rw [show runK Try.prog noCall (resSlots Try.f40.results.toList) _ [] _ (.yes (.yes .done)) (cutK Try.prog Try.f40 []) = .need (decide ((4, 0) = ((4, 0) : Nat × Nat) ∧ 42 = 42 ∧ 5 = 5)) (.need (decide (0 = 0 ∧ 42 = 42 ∧ 5 = 5) && roomy (0 + xs.length) (bytesT Try.prog 42)) (.ret (.res (some (.own (0, 0) 42 5 ([] ++ xs)))))) by kernel_rfl]
    exact ⟨by simp, by rw [hr]; rfl, rfl⟩
theorem clo57 (xs : List (List TV)) (h : xs.length ≤ 1000000) : Ctr Try.prog 57 [.sl 1 xs] (.own (0, 0) 3 1 xs) := by
  refine nil_ctr (T := 28) (e := 3) (p := 3) (q := 4) (s1 := [.sl 1 xs, .tup [], .own (1, 0) 3 1 [], .tup [], .tup [], .tup [], .tup [], .tup []]) (n1 := 2)
    (s2 := [.sl 1 xs, .tup [], .own (1, 0) 3 1 [], .sl 1 xs, .tup [], .tup [], .tup [], .tup []]) (rA := (.sl 1 xs, [])) mixed (by kernel_rfl) Try.func57 rfl (by kernel_rfl) (by decide) rfl rfl rfl rfl ?_ ?_ rfl rfl rfl ?_ ?_
  · kernel_rfl
  · kernel_rfl
  · rintro rfl
    refine W_rcut .done ?_
    rw [show runK Try.prog noCall (resSlots Try.f57.results.toList) _ [] _ .done (retK Try.prog Try.f57) = .ret (.res (some (.own (0, 0) 3 1 []))) by kernel_rfl]
    rfl
  · refine W_cut (.yes (.yes .done)) ?_
    have hr : roomy (0 + xs.length) (bytesT Try.prog 3) = true := by
      rw [show bytesT Try.prog 3 = 8 by kernel_rfl]; simp [roomy]; omega
    rw [show runK Try.prog noCall (resSlots Try.f57.results.toList) _ [] _ (.yes (.yes .done)) (cutK Try.prog Try.f57 []) = .need (decide ((4, 0) = ((4, 0) : Nat × Nat) ∧ 3 = 3 ∧ 1 = 1)) (.need (decide (0 = 0 ∧ 3 = 3 ∧ 1 = 1) && roomy (0 + xs.length) (bytesT Try.prog 3)) (.ret (.res (some (.own (0, 0) 3 1 ([] ++ xs)))))) by kernel_rfl]
    exact ⟨by simp, by rw [hr]; rfl, rfl⟩
theorem noPhi_ok : ∀ f args r, NoPhi f args = some r → Ctr Try.prog f args r := by
  intro f args r h
  unfold NoPhi at h
  split at h
  · split at h
    · rename_i hc; cases h; obtain ⟨rfl, hc⟩ := hc; exact clo40 _ hc
    · cases h
  · split at h
    · rename_i hc; cases h; obtain ⟨rfl, hc⟩ := hc; exact clo52 _ hc
    · cases h
  · split at h
    · rename_i hc; cases h; obtain ⟨rfl, hc⟩ := hc; exact clo57 _ hc
    · cases h
  · cases h
theorem c52 (xs : List (List TV)) (h : xs.length ≤ 1000000) : callE Try.prog NoPhi 52 [.sl 6 xs] = some (.own (0, 0) 44 6 xs) :=
  callE_some.2 ⟨1, by simp [callF, NoPhi, h, bodyOf_code (fn := Try.f52) Try.func52 (by kernel_rfl)]⟩
theorem c40 (xs : List (List TV)) (h : xs.length ≤ 1000000) : callE Try.prog NoPhi 40 [.sl 5 xs] = some (.own (0, 0) 42 5 xs) :=
  callE_some.2 ⟨1, by simp [callF, NoPhi, h, bodyOf_code (fn := Try.f40) Try.func40 (by kernel_rfl)]⟩
theorem c57 (xs : List (List TV)) (h : xs.length ≤ 1000000) : callE Try.prog NoPhi 57 [.sl 1 xs] = some (.own (0, 0) 3 1 xs) :=
  callE_some.2 ⟨1, by simp [callF, NoPhi, h, bodyOf_code (fn := Try.f57) Try.func57 (by kernel_rfl)]⟩
set_option maxRecDepth 100000 in
theorem c10 : callE Try.prog NoPhi 10 [] = some (.bool true) := callE_some.2 ⟨400, by kernel_rfl⟩
end Go.Proofs.Ytgfpbhbogfabmaa
