/- Facts for the proofs over trees. -/
import Derived.Test.YtgfpbhbogfabmaaVm29
set_option linter.unusedVariables false
set_option linter.unusedSimpArgs false
set_option linter.unnecessarySimpa false
set_option linter.unusedSectionVars false
namespace Go.Vm
theorem wrap64 (n : Int) (h1 : -9223372036854775808 ≤ n) (h2 : n ≤ 9223372036854775807) : IntKind.wrap .i64 n = n := by
  simp [IntKind.wrap, IntKind.bits, IntKind.signed]; split <;> omega
@[simp] theorem wrap_up (i : Nat) (h : (i : Int) < 9223372036854775807) : IntKind.wrap .i64 ((i : Int) + 1) = ((i + 1 : Nat) : Int) := by rw [wrap64 _ (by omega) (by omega)]; rfl
@[simp] theorem wrap_down (i : Nat) (h : 0 < i) (h : (i : Int) < 9223372036854775807) : IntKind.wrap .i64 ((i : Int) - 1) = ((i - 1 : Nat) : Int) := by rw [wrap64 _ (by omega) (by omega)]; omega
@[simp] theorem wrap_zero : IntKind.wrap .i64 0 = 0 := wrap64 _ (by omega) (by omega)
@[simp] theorem wrap_one : IntKind.wrap .i64 1 = 1 := wrap64 _ (by omega) (by omega)
@[simp] theorem zero_cast (j : Nat) : (0 : Int) = (j : Int) ↔ j = 0 := by omega
@[simp] theorem one_cast (j : Nat) : (1 : Int) = (j : Int) ↔ j = 1 := by omega
@[simp] theorem succ_cast (i j : Nat) : (i : Int) + 1 = (j : Int) ↔ j = i + 1 := by omega
@[simp] theorem cast_cast (i j : Nat) : (i : Int) = (j : Int) ↔ j = i := by omega
theorem at_getD {α : Type} [Inhabited α] (l : List α) (i : Nat) (h : i < l.length) : l[i] = l.getD i default := by simp [List.getD, h]
theorem wrapU8 (n : Int) (h1 : 0 ≤ n) (h2 : n < 256) : IntKind.wrap .u8 n = n := by
  simp [IntKind.wrap, IntKind.bits, IntKind.signed]; omega
@[simp] theorem take_map_len {α β : Type} (f : α → β) (l : List α) : List.take l.length (List.map f l) = List.map f l := by
  rw [List.take_of_length_le (by simp)]
theorem getD_mem' {α : Type} [Inhabited α] {l : List α} {i : Nat} (h : i < l.length) : l.getD i default ∈ l := by
  simp [List.getD, h]
theorem drop_getD {α : Type} [Inhabited α] {l : List α} {i : Nat} (h : i < l.length) : l.drop i = l.getD i default :: l.drop (i + 1) := by
  rw [List.drop_eq_getElem_cons h]; simp [List.getD, h]
theorem map_inj_snoc {α : Type} (f : α → List TV) (hf : ∀ a b, f a = f b → a = b) (a b : List α) (c : α) : List.map f a ++ [f c] = List.map f b ↔ b = a ++ [c] := by
  have : List.map f a ++ [f c] = List.map f (a ++ [c]) := by simp
  rw [this]
  exact ⟨fun h => ((List.map_inj_right (fun x y h => hf x y h)).1 h).symm, fun h => by rw [h]⟩
theorem map_inj_iff {α : Type} (f : α → List TV) (hf : ∀ a b, f a = f b → a = b) (a b : List α) : List.map f a = List.map f b ↔ b = a :=
  ⟨fun h => ((List.map_inj_right (fun x y h => hf x y h)).1 h).symm, fun h => by rw [h]⟩
/-! ### Bytes -/
def byteRow (n : Int) : List TV := [.int .u8 n]
def strRow (s : ByteArray) : List TV := [.str s]
def boolRow (b : Bool) : List TV := [.bool b]
def intRow (n : Int) : List TV := [.int .i64 n]
/-- The bytes of a string, as numbers. -/
def bts (s : ByteArray) : List Int := s.data.toList.map fun b => (b.toNat : Int)
def ofB (l : List Int) : ByteArray := ⟨(l.map fun n => UInt8.ofNat n.toNat).toArray⟩
@[simp] theorem bts_len (s : ByteArray) : (bts s).length = s.size := by rw [bts, List.length_map]; rfl
theorem byte_at (s : ByteArray) (i : Nat) (h : i < s.size) : (s[i]?.map fun b => TV.int .u8 (b.toNat : Int)) = some (.int .u8 ((bts s).getD i 0)) := by
  have h' : i < s.data.size := h
  have h2 : s[i]? = some s.data[i] := by
    rw [getElem?_pos s i h]; rfl
  rw [h2]
  simp only [Option.map_some, Option.some.injEq, TV.int.injEq, true_and, bts, List.getD, List.getElem?_map]
  rw [show s.data.toList[i]? = some s.data[i] from by rw [Array.getElem?_toList, Array.getElem?_eq_getElem h']]
  rfl
theorem byte_get (s : ByteArray) (i : Nat) (h : i < s.size) : ((s[i]'h).toNat : Int) = (bts s).getD i 0 := by
  have := byte_at s i h
  rw [getElem?_pos s i h] at this
  simpa using this
theorem bts_byte (s : ByteArray) : ∀ n ∈ bts s, 0 ≤ n ∧ n < 256 := by
  intro n hn
  simp only [bts, List.mem_map] at hn
  obtain ⟨b, _, rfl⟩ := hn
  have := b.toNat_lt
  omega
theorem bts_inj {a b : ByteArray} (h : bts a = bts b) : a = b := by
  rcases a with ⟨⟨a⟩⟩; rcases b with ⟨⟨b⟩⟩
  simp only [bts] at h
  congr 2
  have hf : Function.Injective (fun b : UInt8 => (b.toNat : Int)) := fun x y h => by
    simp only at h; exact UInt8.toNat_inj.1 (by omega)
  exact (List.map_inj_right (fun x y h => hf h)).1 h
theorem bts_ofB (l : List Int) (h : ∀ n ∈ l, 0 ≤ n ∧ n < 256) : bts (ofB l) = l := by
  induction l with
  | nil => rfl
  | cons n l ih =>
    have h1 := h n (by simp)
    have := ih fun m hm => h m (by simp [hm])
    simp only [bts, ofB, List.map_cons, List.map_map] at this ⊢
    rw [this]
    congr 1
    rw [UInt8.toNat_ofNat']
    have : n.toNat % 2 ^ 8 = n.toNat := Nat.mod_eq_of_lt (by omega)
    rw [this]; omega
theorem ofB_bts (s : ByteArray) : ofB (bts s) = s := bts_inj (bts_ofB _ (bts_byte s))
theorem rows_bts (s : ByteArray) : rowsOf s = (bts s).map byteRow := by
  rw [rowsOf, bts, List.map_map]; rfl
theorem bytes_of (l : List Int) : ((bytesOf? (l.map byteRow)).map fun bs => TV.str ⟨bs.toArray⟩) = some (.str (ofB l)) := by
  have key : ∀ l : List Int, bytesOf? (l.map byteRow) = some (l.map fun n => UInt8.ofNat n.toNat) := by
    intro l
    induction l with
    | nil => rfl
    | cons n l ih => rw [List.map_cons, byteRow, bytesOf?, ih]; rfl
  rw [key l]; rfl
theorem toList_inj' {a b : ByteArray} : a.toList = b.toList ↔ a = b := by
  constructor
  · intro h
    simp only [ByteArray.toList_eq] at h
    rcases a with ⟨⟨a⟩⟩; rcases b with ⟨⟨b⟩⟩
    simpa using h
  · rintro rfl; rfl
theorem strRow_inj (a b : ByteArray) (h : strRow a = strRow b) : a = b := by simpa [strRow] using h
theorem boolRow_inj (a b : Bool) (h : boolRow a = boolRow b) : a = b := by simpa [boolRow] using h
theorem intRow_inj (a b : Int) (h : intRow a = intRow b) : a = b := by simpa [intRow] using h
theorem byteRow_inj (a b : Int) (h : byteRow a = byteRow b) : a = b := by simpa [byteRow] using h
theorem map_str_snoc (a b : List ByteArray) (c : ByteArray) : List.map strRow a ++ [[TV.str c]] = List.map strRow b ↔ b = a ++ [c] := map_inj_snoc strRow strRow_inj a b c
theorem map_bool_snoc (a b : List Bool) (c : Bool) : List.map boolRow a ++ [[TV.bool c]] = List.map boolRow b ↔ b = a ++ [c] := map_inj_snoc boolRow boolRow_inj a b c
theorem map_int_snoc (a b : List Int) (c : Int) : List.map intRow a ++ [[TV.int .i64 c]] = List.map intRow b ↔ b = a ++ [c] := map_inj_snoc intRow intRow_inj a b c
theorem map_str_eq (a b : List ByteArray) : List.map strRow a = List.map strRow b ↔ b = a := map_inj_iff strRow strRow_inj a b
theorem map_bool_eq (a b : List Bool) : List.map boolRow a = List.map boolRow b ↔ b = a := map_inj_iff boolRow boolRow_inj a b
theorem map_int_eq (a b : List Int) : List.map intRow a = List.map intRow b ↔ b = a := map_inj_iff intRow intRow_inj a b
theorem map_byte_eq (a b : List Int) : List.map byteRow a = List.map byteRow b ↔ b = a := map_inj_iff byteRow byteRow_inj a b
theorem set_map_eq {α : Type} (f : α → List TV) (l : List α) (i : Nat) (v : α) : (List.map f l).set i (f v) = List.map f (l.set i v) := by
  rw [List.map_set]
theorem set_bool (l : List Bool) (i : Nat) (v : Bool) : (List.map boolRow l).set i [TV.bool v] = List.map boolRow (l.set i v) := set_map_eq boolRow l i v
theorem set_int (l : List Int) (i : Nat) (v : Int) : (List.map intRow l).set i [TV.int .i64 v] = List.map intRow (l.set i v) := set_map_eq intRow l i v
theorem set_byte (l : List Int) (i : Nat) (v : Int) : (List.map byteRow l).set i [TV.int .u8 v] = List.map byteRow (l.set i v) := set_map_eq byteRow l i v
theorem set_str (l : List ByteArray) (i : Nat) (v : ByteArray) : (List.map strRow l).set i [TV.str v] = List.map strRow (l.set i v) := set_map_eq strRow l i v
/-- All of the first ones are so. -/
def allTo (p : Nat → Bool) : Nat → Bool
  | 0 => true
  | i + 1 => allTo p i && p i
theorem allTo_iff {p : Nat → Bool} {n : Nat} : allTo p n = true ↔ ∀ i, i < n → p i = true := by
  induction n with
  | zero => simp [allTo]
  | succ n ih =>
    simp only [allTo, Bool.and_eq_true, ih]
    constructor
    · rintro ⟨h1, h2⟩ i hi
      rcases Nat.lt_or_ge i n with h | h
      · exact h1 i h
      · rw [show i = n by omega]; exact h2
    · exact fun h => ⟨fun i hi => h i (by omega), h n (by omega)⟩
theorem allTo_false {p : Nat → Bool} {n i : Nat} (h : i < n) (h1 : p i = false) : allTo p n = false := by
  rw [Bool.eq_false_iff]
  intro h2
  rw [allTo_iff.1 h2 i h] at h1; cases h1
end Go.Vm
