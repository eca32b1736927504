/- A part of the proof: PCon6. -/
import Derived.Test.YtaenniiaccflmaaPTrees4
set_option linter.unusedVariables false
set_option linter.unusedSimpArgs false
set_option linter.unnecessarySimpa false
set_option linter.unusedSectionVars false
namespace Go.Proofs.Ytaenniiaccflmaa
open Go Go.Vm Go.Proofs
theorem pick_len {α : Type} (lt : α → α → Bool) : ∀ (z : List (Int × α)) (m : Int) (t : α), (pickS lt z m t).length = z.length
  | [], _, _ => rfl
  | (b, k) :: z, m, t => by unfold pickS; split <;> simp [pick_len lt z]
theorem keep_len (l : List ByteArray) : (keepS l).length = l.length := by
  unfold keepS keepG; rw [pick_len, List.length_zip]; unfold bestK; rw [bestL_len]; simp
theorem light_len {l : List ByteArray} (h : lightS l = true) : l.length ≤ 60 := by
  unfold lightS at h; simp at h; exact h.1
theorem l5 (l : List ByteArray) (hb : ∀ s ∈ l, s.size ≤ 9223372036854775807) : callE Try.prog NoPhi 5 [.sl 1 (l.map strRow)] = some (.bool true) := by
  refine call_flat Try.f5 Try.func5 (by kernel_rfl) rfl ⟨_, e5 l, ?_⟩
  have hk := keep_len l
  have h19 := c19 l hb
  cases hl : lightS l with
  | false => simp [TW, LcQ, h19, c11, hl]
  | true =>
    have := light_len hl
    simp (disch := omega) [TW, LcQ, h19, c11, c20, c21, c22, hl]
structure P8 where
  i : Nat
  a : Int
  b : Int
  la : ByteArray
  lb : ByteArray
  γ : Stamp
  pre : List Bool
  most : Int
def inv8 (l : List ByteArray) (x : P8) : Prop := lightS l = true ∧ x.i ≤ l.length ∧ x.pre.length = x.i ∧ keepS l = x.pre ++ pickS ltK (((BK l).zip l).drop x.i) x.most x.la ∧ 0 ≤ x.most ∧ x.most ≤ mOf ltK validK (l.drop x.i) x.la ∧ x.a + x.most = mostS (BK l) ∧ 0 ≤ x.a ∧ 0 ≤ x.b ∧ x.b + mOf ltK validK (l.drop x.i) x.lb ≤ mostS (BK l)
theorem l8 (l : List ByteArray) (hb : ∀ s ∈ l, s.size ≤ 9223372036854775807) (ch : List Bool) (hch : ch.length ≤ 9223372036854775807) : callE Try.prog NoPhi 8 [.sl 1 (l.map strRow), .sl 1 (ch.map boolRow)] = some (.bool true) := by
  have hkl := keep_len l
  have hms := mostS_le l
  have hmn := mostS_nonneg (BK l)
  have h19 := c19 l hb
  refine call_loop (ι := P8) Try.f8 hd8 89 Try.func8 (by kernel_rfl) rfl p8 rfl (fun x => w8 l ch x.a x.b x.la x.lb x.γ (keepS l) x.i) (inv8 l) (fun x => l.length - x.i) ⟨_, e8 l ch, ?_⟩ (fun x nx hx g => ⟨_, r8 l ch x.a x.b x.la x.lb x.γ (keepS l) x.i g nx, ?_⟩)
  · cases hl : lightS l with
    | false => simp [TW, LcQ, h19, c11, hl]
    | true =>
      have := light_len hl
      have h0 : mOf ltK validK l ⟨#[]⟩ = mostS (BK l) := mOf_all validK _ (fun s h => less_empty h) l
      have hj : ∃ j : P8, w8 l ch 0 0 ⟨#[]⟩ ⟨#[]⟩ (6, 0) (keepS l) 0 = w8 l ch j.a j.b j.la j.lb j.γ (keepS l) j.i ∧ inv8 l j :=
        ⟨⟨0, 0, 0, ⟨#[]⟩, ⟨#[]⟩, (6, 0), [], mostS (BK l)⟩, rfl, hl, Nat.zero_le _, rfl, rfl, hmn, by simp [h0], by simp, Int.le_refl 0, Int.le_refl 0, by simp [h0]⟩
      simp only [w8, List.length_map] at hj
      simp (disch := omega) [TW, LcQ, h19, c11, c21, hl, hkl, p8]
      simpa [w8] using hj
  · obtain ⟨i, a, b, la, lb, γ, pre, most⟩ := x
    obtain ⟨hl, hi, hp, hk, hm0, hmm, ham, ha0, hb0, hbm⟩ := hx
    simp only at hi hp hk hm0 hmm ham ha0 hb0 hbm ⊢
    have h60 := light_len hl
    have hbl : (BK l).length = l.length := BK_len l
    by_cases hlt : i < l.length
    · have hz : ((BK l).zip l).drop i = ((BK l).getD i default, l.getD i default) :: ((BK l).zip l).drop (i + 1) := by
        rw [List.drop_eq_getElem_cons (by simp [BK_len]; exact hlt), List.getElem_zip, at_getD, at_getD]
      have hB : (BK l).getD i default = if validK (l.getD i default) then mOf ltK validK (l.drop (i + 1)) (l.getD i default) + 1 else 0 := best_mOf validK l i hlt
      have hbb := BK_bound l i hlt
      have hda := mOf_drop (lt := ltK) validK l i hlt la
      have hdb := mOf_drop (lt := ltK) validK l i hlt lb
      have hna := mOf_nonneg (lt := ltK) validK (l.drop (i + 1)) la
      have hnb := mOf_nonneg (lt := ltK) validK (l.drop (i + 1)) lb
      have hnk := mOf_nonneg (lt := ltK) validK (l.drop (i + 1)) (l.getD i default)
      have hantia := mOf_anti validK ordK (l.drop (i + 1)) la (l.getD i default)
      have hBf : (bestL ltK validK l).getD i default = (BK l).getD i default := rfl
      rw [hBf] at hda hdb
      generalize hkey : l.getD i default = key at *
      generalize hBi : (BK l).getD i default = Bi at *
      generalize hM : mOf ltK validK (l.drop (i + 1)) key = Mk at *
      have hK : (keepS l).getD i default = decide (most > 0 ∧ Bi = most ∧ ltK la key = true) := by
        rw [hk, hz]
        simp only [List.getD]
        rw [List.getElem?_append_right (by omega), hp, Nat.sub_self]
        unfold pickS
        split
        · rename_i h; simp [h]
        · rename_i h; simp [h]
      have hA1 : most > 0 → Bi = most → ltK la key = true → keepS l = (pre ++ [true]) ++ pickS ltK (((BK l).zip l).drop (i + 1)) (most - 1) key ∧ most - 1 ≤ Mk := fun h1 h2 h3 => by
        refine ⟨by rw [hk, hz, pickS, if_pos ⟨h1, h2, h3⟩, List.append_assoc]; rfl, ?_⟩
        rw [hbb.2.2 (by omega)] at hB
        simp at hB; omega
      have hA0 : ¬ (most > 0 ∧ Bi = most ∧ ltK la key = true) → keepS l = (pre ++ [false]) ++ pickS ltK (((BK l).zip l).drop (i + 1)) most la ∧ most ≤ mOf ltK validK (l.drop (i + 1)) la := fun h => by
        refine ⟨by rw [hk, hz, pickS, if_neg h, List.append_assoc]; rfl, ?_⟩
        rw [hda] at hmm
        split at hmm
        · rename_i h'
          rw [if_pos h'.1] at hB
          have h1 := hantia h'.2
          by_cases hmp : most > 0
          · have : Bi ≠ most := fun e => h ⟨hmp, e, h'.2⟩
            omega
          · omega
        · exact hmm
      have hB1 : validK key = true → ltK lb key = true → b + 1 + Mk ≤ mostS (BK l) := fun h1 h2 => by
        rw [hdb, if_pos ⟨h1, h2⟩] at hbm
        rw [if_pos h1] at hB
        omega
      have hB0 : b + mOf ltK validK (l.drop (i + 1)) lb ≤ mostS (BK l) := by
        rw [hdb] at hbm
        split at hbm <;> omega
      have hvk : most > 0 → Bi = most → validK key = true := fun h1 h2 => hbb.2.2 (by omega)
      have hgle : (Op.bytesLess key.toList la.toList || key.toList == la.toList) = !ltK la key := by rw [← gtK key la]; simp
      have hwa : a < 10000 → 0 ≤ a → IntKind.wrap .i64 (a + 1) = a + 1 := fun _ _ => wrap64 _ (by omega) (by omega)
      have hwb : IntKind.wrap .i64 (b + 1) = b + 1 := wrap64 _ (by omega) (by omega)
      have nxt : ∀ a' b' la' lb' pre' most', keepS l = pre' ++ pickS ltK (((BK l).zip l).drop (i + 1)) most' la' → pre'.length = i + 1 → 0 ≤ most' → most' ≤ mOf ltK validK (l.drop (i + 1)) la' → a' + most' = mostS (BK l) → 0 ≤ a' → 0 ≤ b' → b' + mOf ltK validK (l.drop (i + 1)) lb' ≤ mostS (BK l) →
          ∃ j : P8, w8 l ch a' b' la' lb' γ (keepS l) (i + 1) = w8 l ch j.a j.b j.la j.lb j.γ (keepS l) j.i ∧ inv8 l j ∧ l.length - j.i < l.length - i := fun a' b' la' lb' pre' most' h1 h2 h3 h4 h5 h5' h6 h7 =>
        ⟨⟨i + 1, a', b', la', lb', γ, pre', most'⟩, rfl, ⟨hl, hlt, h2, h1, h3, h4, h5, h5', h6, h7⟩, by show l.length - (i + 1) < l.length - i; omega⟩
      have ec : ((i + 1 : Nat) : Int) = (i : Int) + 1 := rfl
      have hmg : (List.map strRow l).getD i default = strRow key := by rw [← hkey]; simp [List.getD, hlt]
      have hmg1 : (List.map boolRow (keepS l)).getD i default = boolRow ((keepS l).getD i default) := by simp [List.getD, hkl, hlt]
      have hmg2 : i < ch.length → (List.map boolRow ch).getD i default = boolRow (ch.getD i default) := fun h => by simp [List.getD, h]
      by_cases hKc : most > 0 ∧ Bi = most ∧ ltK la key = true
      · obtain ⟨k1, k2, k3⟩ := hKc
        obtain ⟨hA, hA'⟩ := hA1 k1 k2 k3
        have hv := hvk k1 k2
        have j1 : ltK lb key = true → _ := fun h => nxt (a + 1) (b + 1) key key (pre ++ [true]) (most - 1) hA (by simp; exact hp) (by omega) (by rw [hM]; exact hA') (by omega) (by omega) (by omega) (by rw [hM]; exact hB1 hv h)
        have j0 := nxt (a + 1) b key lb (pre ++ [true]) (most - 1) hA (by simp; exact hp) (by omega) (by rw [hM]; exact hA') (by omega) (by omega) (by omega) hB0
        have hK1 : (keepS l).getD i default = true := by rw [hK]; simp [k1, k2, k3]
        simp only [w8, List.length_map, ec] at j1 j0
        simp only [TW, LcQ, List.length_map, Nat.zero_add, hkey, hK1, gtK, hgle, k3, hv, hwa (by omega) ha0, hwb]
        clear nxt hA hA' hA0 hA1 hB0 hB1 hda hdb hna hnb hnk hantia hz hB hbb hK hgle hwa hwb hvk hms hmn hmm hbm ham hm0 hb0
        simp +contextual (disch := omega) [at_getD, -List.getD_eq_getElem?_getD, -Bool.default_bool, hlt, hkl, hmg, hmg1, hmg2, hK1, c14, hv, p8, k3, hkey]
        exact ⟨fun _ => ⟨fun _ => ⟨fun h => j1 h, fun _ => j0⟩, fun _ => j0⟩, fun _ => j0⟩
      · obtain ⟨hA, hA'⟩ := hA0 hKc
        have hK0 : (keepS l).getD i default = false := by rw [hK]; simpa using hKc
        have j1 : validK key = true → ltK lb key = true → _ := fun hv h => nxt a (b + 1) la key (pre ++ [false]) most hA (by simp; exact hp) hm0 hA' ham ha0 (by omega) (by rw [hM]; exact hB1 hv h)
        have j0 := nxt a b la lb (pre ++ [false]) most hA (by simp; exact hp) hm0 hA' ham ha0 hb0 hB0
        simp only [w8, List.length_map, ec] at j1 j0
        simp only [TW, LcQ, List.length_map, Nat.zero_add, hkey, hK0, gtK, hwb]
        clear nxt hA hA' hA0 hA1 hB0 hB1 hda hdb hna hnb hnk hantia hz hB hbb hK hgle hwa hwb hvk hms hmn hmm hbm ham hm0 hb0
        simp +contextual (disch := omega) [at_getD, -List.getD_eq_getElem?_getD, -Bool.default_bool, hlt, hkl, hmg, hmg1, hmg2, hK0, c14, p8, hkey]
        exact ⟨fun _ => ⟨fun _ => ⟨fun hv => ⟨fun h => j1 hv h, fun _ => j0⟩, fun _ => j0⟩, fun _ => j0⟩, fun _ => j0⟩
    · have hge : l.length ≤ i := by omega
      have h0 : ∀ t, mOf ltK validK (l.drop i) t = 0 := fun t => by rw [List.drop_eq_nil_of_le hge]; rfl
      rw [h0] at hmm hbm
      have hba : b ≤ a := by omega
      simp only [TW, LcQ, List.length_map]
      simp +contextual (disch := omega) [hlt, c11, hba, hge]
end Go.Proofs.Ytaenniiaccflmaa
