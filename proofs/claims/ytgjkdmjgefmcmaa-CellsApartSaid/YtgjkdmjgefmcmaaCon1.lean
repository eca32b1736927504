/- A part of the proof: Con1. -/
import Derived.Test.YtgjkdmjgefmcmaaTrees1
set_option linter.unusedVariables false
set_option linter.unusedSimpArgs false
set_option linter.unnecessarySimpa false
set_option linter.unusedSectionVars false
namespace Go.Proofs.Ytgjkdmjgefmcmaa
open Go Go.Vm Go.Proofs
theorem ba_inj {a b : ByteArray} (h : a.toList = b.toList) : a = b := by
  simp only [ByteArray.toList_eq] at h
  rcases a with ⟨⟨a⟩⟩; rcases b with ⟨⟨b⟩⟩
  simpa using h
theorem v_eq (v w : Val) : (v.n == w.n && (v.flag == w.flag && (v.text.toList == w.text.toList && (v.ref == w.ref && true)))) = decide (v = w) := by
  cases v; cases w
  simp only [Val.mk.injEq, Bool.and_true]
  rw [Bool.eq_iff_iff]
  simp only [Bool.and_eq_true, beq_iff_eq, decide_eq_true_eq]
  constructor
  · rintro ⟨h1, h2, h3, h4⟩
    exact ⟨h1, h2, ba_inj h3, h4⟩
  · rintro ⟨rfl, rfl, rfl, rfl⟩; simp
theorem v_zero (v : Val) : (v.n == 0 && (v.flag == false && (v.text.toList == ByteArray.toList ⟨#[]⟩ && (v.ref == 0 && true)))) = decide (v = default) := v_eq v default
theorem c27 (a b : CellR) : callE Try.prog NoPhi 27 [.agg a.row, .agg b.row] = some (.int .i64 (ord a b)) := by
  refine call_flat Try.f27 Try.func27 (by kernel_rfl) rfl ⟨_, e27 a b, ?_⟩
  simp only [TW, LcQ, true_and, Option.some.injEq, TV.int.injEq, v27, ord]
  grind
theorem c32 (n : Int) : callE Try.prog NoPhi 32 [.int .i64 n] = some (.bool (begunS n)) := by
  refine call_flat Try.f32 Try.func32 (by kernel_rfl) rfl ⟨_, e32 n, ?_⟩
  simp only [TW, LcQ, v32, begunS]
  grind
theorem c26 (n : Int) : callE Try.prog NoPhi 26 [.int .i64 n] = some (.bool (idS n)) := by
  refine call_flat Try.f26 Try.func26 (by kernel_rfl) rfl ⟨_, e26 n, ?_⟩
  simp only [TW, LcQ, c32, idS, true_and]
  grind
theorem c13 (l : List CellR) (hl : l.length ≤ 1000) : callE Try.prog NoPhi 13 [.sl 6 (l.map CellR.row)] = some (.bool (writesS l)) := by
  refine call_loop Try.f13 hd13 41 Try.func13 (by kernel_rfl) rfl p13 rfl _ (fun i => i ≤ l.length ∧ allTo (okAt l) i = true) (fun i => l.length - i) ⟨_, e13 l, ?_⟩ (fun i n ⟨hi, hall⟩ g => ⟨_, r13 l i g n, ?_⟩)
  · simp [TW, LcQ, p13, allTo]
  · have ho : okAt l i = (idS (l.getD i default).id && decide (1 ≤ (l.getD i default).field) && decide ((l.getD i default).field < 48) && (i == 0 || decide (ord (l.getD (i - 1) default) (l.getD i default) < 0))) := rfl
    have hf : okAt l i = false → i < l.length → writesS l = false := fun h1 h2 => allTo_false h2 h1
    have ht : i = l.length → writesS l = true := fun h => by subst h; exact hall
    simp +contextual (disch := omega) [TW, LcQ, p13, c26, c27, at_getD, -List.getD_eq_getElem?_getD, allTo, hall]
    grind
theorem and_mask (m : Nat) (hm : m < 2 ^ 64) : (BitVec.ofInt 64 (m : Int) &&& BitVec.ofInt 64 1048575).toNat = m % 1048576 := by
  have h1 : BitVec.ofInt 64 (m : Int) = BitVec.ofNat 64 m := by simp
  have h2 : BitVec.ofInt 64 (1048575 : Int) = BitVec.ofNat 64 1048575 := by rfl
  rw [h1, h2, BitVec.toNat_and, BitVec.toNat_ofNat, BitVec.toNat_ofNat, Nat.mod_eq_of_lt hm]
  have := Nat.and_two_pow_sub_one_eq_mod m 20
  simpa using this
theorem idS_eq (n : Int) : idS n = (decide (1048576 < n) && decide (n < 34603008) && decide (n.tmod 1048576 ≠ 0)) := by
  unfold idS begunS
  by_cases h : 0 ≤ n ∧ n < 34603008
  · obtain ⟨m, rfl⟩ := Int.eq_ofNat_of_zero_le h.1
    rw [and_mask m (by omega), wrap64 _ (by omega) (by omega)]
    rw [Bool.eq_iff_iff]
    simp only [Bool.and_eq_true, decide_eq_true_eq, bne_iff_ne]
    have : (m : Int).tmod 1048576 = ((m % 1048576 : Nat) : Int) := by
      rw [Int.tmod_eq_emod_of_nonneg (by omega)]; rfl
    rw [this, Int.fdiv_eq_ediv_of_nonneg _ (by decide)]
    omega
  · have : (decide (1 ≤ n.fdiv (2 ^ 20)) && decide (n.fdiv (2 ^ 20) ≤ 32)) = false := by
      rw [Int.fdiv_eq_ediv_of_nonneg _ (by decide), Bool.eq_false_iff]
      simp only [ne_eq, Bool.and_eq_true, decide_eq_true_eq]
      omega
    rw [this]
    have : (decide (1048576 < n) && decide (n < 34603008)) = false := by
      rw [Bool.eq_false_iff]
      simp only [ne_eq, Bool.and_eq_true, decide_eq_true_eq]
      omega
    rw [this]; rfl
theorem c28 (n : Int) : callE Try.prog NoPhi 28 [.int .i64 n] = some (.bool (idS n)) := by
  refine call_flat Try.f28 Try.func28 (by kernel_rfl) rfl ⟨_, e28 n, ?_⟩
  simp +contextual [TW, LcQ, idS_eq]
  grind
theorem ord_lt (a b : CellR) : ord a b < 0 ↔ a.id < b.id ∨ a.id = b.id ∧ a.field < b.field := by
  unfold ord; repeat' split
  all_goals omega
theorem ord_eq (a b : CellR) : ord a b = 0 ↔ a.id = b.id ∧ a.field = b.field := by
  unfold ord; repeat' split
  all_goals omega
theorem c29 (a b : CellR) : callE Try.prog NoPhi 29 [.agg a.row, .agg b.row] = some (.bool (decide (ord a b < 0))) := by
  refine call_flat Try.f29 Try.func29 (by kernel_rfl) rfl ⟨_, e29 a b, ?_⟩
  simp +contextual [TW, LcQ, ord_lt]
theorem c21 (a b : CellR) : callE Try.prog NoPhi 21 [.agg a.row, .agg b.row] = some (.bool (decide (ord a b = 0))) := by
  refine call_flat Try.f21 Try.func21 (by kernel_rfl) rfl ⟨_, e21 a b, ?_⟩
  simp +contextual [TW, LcQ, ord_eq]
  exact fun _ => by rw [Bool.eq_iff_iff]; simp
theorem c14 (l : List CellR) (hl : l.length ≤ 1000) : callE Try.prog NoPhi 14 [.sl 6 (l.map CellR.row)] = some (.bool (writesS l)) := by
  refine call_loop Try.f14 hd14 50 Try.func14 (by kernel_rfl) rfl p14 rfl _ (fun i => i ≤ l.length ∧ allTo (okAt l) i = true) (fun i => l.length - i) ⟨_, e14 l, ?_⟩ (fun i n ⟨hi, hall⟩ g => ⟨_, r14 l i g n, ?_⟩)
  · simp [TW, LcQ, p14, allTo]
  · have ho : okAt l i = (idS (l.getD i default).id && decide (1 ≤ (l.getD i default).field) && decide ((l.getD i default).field < 48) && (i == 0 || decide (ord (l.getD (i - 1) default) (l.getD i default) < 0))) := rfl
    have hf : okAt l i = false → i < l.length → writesS l = false := fun h1 h2 => allTo_false h2 h1
    have ht : i = l.length → writesS l = true := fun h => by subst h; exact hall
    simp +contextual (disch := omega) [TW, LcQ, p14, c28, c29, at_getD, -List.getD_eq_getElem?_getD, allTo, hall]
    grind
theorem c11 (l : List CellR) (hl : l.length ≤ 1000) : callE Try.prog NoPhi 11 [.sl 6 (l.map CellR.row)] = some (.bool (validS l)) := by
  refine call_loop Try.f11 hd11 18 Try.func11 (by kernel_rfl) rfl p11 rfl _ (fun i => i ≤ l.length ∧ allTo (fun i => (l.getD i default).v != default) i = true) (fun i => l.length - i) ⟨_, e11 l, ?_⟩ (fun i n ⟨hi, hall⟩ g => ⟨_, r11 l i g n, ?_⟩)
  · simp [TW, LcQ, p11, allTo]
  · have hf : (l.getD i default).v = default → i < l.length → validS l = false := fun h1 h2 => by
      unfold validS; rw [allTo_false h2 (by simp [h1, -List.getD_eq_getElem?_getD])]; rfl
    have ht : l.length = i → validS l = writesS l := fun h => by subst h; unfold validS; rw [hall, Bool.true_and]
    simp only [TW, LcQ, v_zero]
    simp +contextual (disch := omega) [p11, c13, at_getD, -List.getD_eq_getElem?_getD, allTo, hall]
    grind
theorem c12 (l : List CellR) (hl : l.length ≤ 1000) : callE Try.prog NoPhi 12 [.sl 6 (l.map CellR.row)] = some (.bool (validS l)) := by
  refine call_loop Try.f12 hd12 19 Try.func12 (by kernel_rfl) rfl p12 rfl _ (fun i => i ≤ l.length ∧ allTo (fun i => (l.getD i default).v != default) i = true) (fun i => l.length - i) ⟨_, e12 l, ?_⟩ (fun i n ⟨hi, hall⟩ g => ⟨_, r12 l i g n, ?_⟩)
  · simp [TW, LcQ, p12, allTo]
  · have hf : (l.getD i default).v = default → i < l.length → validS l = false := fun h1 h2 => by
      unfold validS; rw [allTo_false h2 (by simp [h1, -List.getD_eq_getElem?_getD])]; rfl
    have ht : l.length = i → validS l = writesS l := fun h => by subst h; unfold validS; rw [hall, Bool.true_and]
    simp only [TW, LcQ, v_zero]
    simp +contextual (disch := omega) [p12, c14, at_getD, -List.getD_eq_getElem?_getD, allTo, hall]
    grind
end Go.Proofs.Ytgjkdmjgefmcmaa
