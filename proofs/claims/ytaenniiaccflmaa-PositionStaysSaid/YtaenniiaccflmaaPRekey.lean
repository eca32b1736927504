/- New keys for a list: plain facts. -/
import Derived.Test.YtaenniiaccflmaaPBet
set_option linter.unusedVariables false
set_option linter.unusedSimpArgs false
set_option linter.unnecessarySimpa false
set_option linter.unusedSectionVars false
namespace Go.Proofs.Ytaenniiaccflmaa
open Go Go.Vm Go.Proofs
section
variable {α : Type} [Inhabited α] {lt : α → α → Bool} (V : α → Bool)
/-- Ascending from 'last' on, and all keys. -/
def Asc (lt : α → α → Bool) (V : α → Bool) : α → List α → Prop
  | _, [] => True
  | last, k :: r => lt last k = true ∧ V k = true ∧ Asc lt V k r
theorem asc_mem (ho : Ord' α lt) : ∀ (l : List α) (t : α), Asc lt V t l → ∀ x ∈ l, V x = true ∧ lt t x = true
  | k :: r, t, h, x, hx => by
    rcases List.mem_cons.1 hx with rfl | hx
    · exact ⟨h.2.1, h.1⟩
    · have := asc_mem ho r k h.2.2 x hx
      exact ⟨this.1, ho.trans _ _ _ h.1 this.2⟩
theorem mOf_all' (e : α) : ∀ ss : List α, (∀ s ∈ ss, V s = true → lt e s = true) → mOf lt V ss e = mostS (bestL lt V ss)
  | [], _ => rfl
  | s :: ss, he => by
    have ih := mOf_all' e ss fun x hx => he x (by simp [hx])
    have hn := mOf_nonneg (lt := lt) V ss s
    have hm := mostS_nonneg (bestL lt V ss)
    rw [mOf_cons, bestL, best_eq, mostS_cons]
    by_cases hv : V s = true
    · rw [if_pos ⟨hv, he s (by simp) hv⟩, if_pos hv, ih]
    · rw [if_neg (fun h => hv h.1), if_neg hv, ih]; omega
theorem asc_best (ho : Ord' α lt) : ∀ (l : List α) (t : α), Asc lt V t l → mostS (bestL lt V l) = l.length
  | [], _, _ => rfl
  | k :: r, t, h => by
    have ih := asc_best ho r k h.2.2
    have hm := mOf_all' (lt := lt) V k r fun x hx _ => (asc_mem V ho r k h.2.2 x hx).2
    rw [bestL, if_pos h.2.1, best_eq, hm, ih, mostS_cons, ih]
    simp; omega
/-- Of keys in ascending order all stay. -/
theorem asc_pick (ho : Ord' α lt) : ∀ (l : List α) (t : α), Asc lt V t l → pickS lt ((bestL lt V l).zip l) l.length t = List.replicate l.length true
  | [], _, _ => rfl
  | k :: r, t, h => by
    have ih := asc_pick ho r k h.2.2
    have hb := asc_best V ho r k h.2.2
    have hm := mOf_all' (lt := lt) V k r fun x hx _ => (asc_mem V ho r k h.2.2 x hx).2
    rw [bestL, if_pos h.2.1, best_eq, hm, hb, List.zip_cons_cons, pickS, if_pos ⟨by simp, by simp, h.1⟩]
    rw [show ((k :: r).length : Int) - 1 = (r.length : Int) by simp, ih]; rfl
/-- Those that stay are keys, in ascending order. -/
def StayAsc (lt : α → α → Bool) (V : α → Bool) : α → List (Bool × α) → Prop
  | _, [] => True
  | last, (true, k) :: r => lt last k = true ∧ V k = true ∧ StayAsc lt V k r
  | last, (false, _) :: r => StayAsc lt V last r
theorem pick_stay : ∀ (z : List (Int × α)) (m : Int) (last : α), (∀ p ∈ z, 0 < p.1 → V p.2 = true) → StayAsc lt V last ((pickS lt z m last).zip (z.map Prod.snd))
  | [], _, _, _ => trivial
  | (b, k) :: z, m, last, h => by
    unfold pickS
    split
    · rename_i hc
      exact ⟨hc.2.2, h (b, k) (by simp) (by show 0 < b; rw [hc.2.1]; exact hc.1), pick_stay z (m - 1) k fun p hp => h p (by simp [hp])⟩
    · exact pick_stay z m last fun p hp => h p (by simp [hp])
end
def firstStay : List (Bool × ByteArray) → ByteArray
  | [] => ⟨#[]⟩
  | (true, k) :: _ => k
  | (false, _) :: r => firstStay r
def rekG (K : ByteArray → ByteArray → ByteArray × Int) : List (Bool × ByteArray) → ByteArray → Option (List ByteArray)
  | [], _ => some []
  | (true, k) :: r, last => (rekG K r k).map (k :: ·)
  | (false, _) :: r, last => if (K last (firstStay r)).2 = 0 then (rekG K r (K last (firstStay r)).1).map ((K last (firstStay r)).1 :: ·) else none
theorem stay_first {V : ByteArray → Bool} : ∀ (r : List (Bool × ByteArray)) (last : ByteArray), StayAsc ltK V last r → firstStay r = ⟨#[]⟩ ∨ (ltK last (firstStay r) = true ∧ V (firstStay r) = true)
  | [], _, _ => .inl rfl
  | (true, k) :: r, last, h => .inr ⟨h.1, h.2.1⟩
  | (false, _) :: r, last, h => stay_first r last h
/-- From a smaller start: those that stay are still in order. -/
theorem stay_from {V : ByteArray → Bool} : ∀ (r : List (Bool × ByteArray)) (last x : ByteArray), StayAsc ltK V last r → (firstStay r = ⟨#[]⟩ ∨ ltK x (firstStay r) = true) → (∀ k, V k = true → k ≠ ⟨#[]⟩) → StayAsc ltK V x r
  | [], _, _, _, _, _ => trivial
  | (true, k) :: r, last, x, h, hf, hV => ⟨hf.elim (fun e => absurd e (hV k h.2.1)) id, h.2.1, h.2.2⟩
  | (false, _) :: r, last, x, h, hf, hV => stay_from r last x h hf hV
/-- What new keys are like. -/
theorem rek_asc {V : ByteArray → Bool} {K : ByteArray → ByteArray → ByteArray × Int} (hV : ∀ k, V k = true → k ≠ ⟨#[]⟩)
    (hK : ∀ lo hi, (lo = ⟨#[]⟩ ∨ V lo = true) → (hi = ⟨#[]⟩ ∨ V hi = true) → (K lo hi).2 = 0 → V (K lo hi).1 = true ∧ ltK lo (K lo hi).1 = true ∧ (hi = ⟨#[]⟩ ∨ ltK (K lo hi).1 hi = true)) :
    ∀ (r : List (Bool × ByteArray)) (last : ByteArray) (l : List ByteArray), (last = ⟨#[]⟩ ∨ V last = true) → StayAsc ltK V last r → rekG K r last = some l →
      Asc ltK V last l ∧ l.length = r.length ∧ ∀ i, i < r.length → (r.getD i default).1 = true → l.getD i default = (r.getD i default).2
  | [], last, l, _, _, h => by simp [rekG] at h; subst h; exact ⟨trivial, rfl, fun i hi => by simp at hi⟩
  | (true, k) :: r, last, l, hl, hs, h => by
    rw [rekG, Option.map_eq_some_iff] at h
    obtain ⟨l', h1, rfl⟩ := h
    obtain ⟨h2, h3, h4⟩ := rek_asc hV hK r k l' (.inr hs.2.1) hs.2.2 h1
    refine ⟨⟨hs.1, hs.2.1, h2⟩, by simp [h3], fun i hi hb => ?_⟩
    cases i with
    | zero => rfl
    | succ i => exact h4 i (by simpa using hi) (by simpa using hb)
  | (false, k) :: r, last, l, hl, hs, h => by
    rw [rekG] at h
    split at h
    · rename_i h0
      rw [Option.map_eq_some_iff] at h
      obtain ⟨l', h1, rfl⟩ := h
      have hf := stay_first r last hs
      obtain ⟨k1, k2, k3⟩ := hK last (firstStay r) hl (hf.elim .inl fun h => .inr h.2) h0
      obtain ⟨h2, h3, h4⟩ := rek_asc hV hK r _ l' (.inr k1) (stay_from r last _ hs k3 hV) h1
      refine ⟨⟨k2, k1, h2⟩, by simp [h3], fun i hi hb => ?_⟩
      cases i with
      | zero => simp at hb
      | succ i => exact h4 i (by simpa using hi) (by simpa using hb)
    · cases h
/-- All stay: the keys remain. -/
theorem rek_all (K : ByteArray → ByteArray → ByteArray × Int) : ∀ (l : List ByteArray) (last : ByteArray), rekG K ((List.replicate l.length true).zip l) last = some l
  | [], _ => rfl
  | k :: l, last => by
    rw [List.length_cons, List.replicate_succ, List.zip_cons_cons, rekG, rek_all K l k]; rfl
end Go.Proofs.Ytaenniiaccflmaa
