/- What the evaluator's values say of memory. -/
import Derived.Test.YtgfpbhbogfabmaaVm1
set_option linter.unusedVariables false
set_option linter.unusedSimpArgs false
set_option linter.unnecessarySimpa false
set_option linter.unusedSectionVars false
namespace Go.Vm

/-- One cell's value. -/
def cellV : Value → Bool
  | .agg _ | .tuple _ => false
  | _ => true

section rep
variable (I : Nat → Prop) (w : World)
mutual
/-- A value without memory of its own; what it reads lies in blocks of I. -/
def RepP : TV → Value → Prop
  | .int k n, v => v = .int k n
  | .bool b, v => v = .bool b
  | .str s, v => v = .string s
  | .nil _, v => v = .slice none 0 0
  | .sl z xs, v => ∃ A c, v = .slice A xs.length c ∧ xs.length ≤ c ∧ (xs = [] ∨ ∃ b o, A = some ⟨b, o, none⟩ ∧ I b ∧ RepRows b o z xs)
  | _, _ => False
def RepRows (b o z : Nat) : List (List TV) → Prop
  | [] => True
  | r :: rs => r.length = z ∧ RepRow b o r ∧ RepRows b (o + z) z rs
def RepRow (b o : Nat) : List TV → Prop
  | [] => True
  | t :: ts => (∃ u, w.cell? ⟨b, o, none⟩ = some u ∧ RepP t u) ∧ RepRow b (o + 1) ts
end
end rep

mutual
theorem RepP.mono {I I' : Nat → Prop} {w w' : World} (hI : ∀ b, I b → I' b) (hw : ∀ b, I b → w'.heap[b]? = w.heap[b]?) :
    ∀ (t : TV) (v : Value), RepP I w t v → RepP I' w' t v
  | .int _ _, _, h | .bool _, _, h | .str _, _, h | .nil _, _, h => h
  | .sl z xs, v, ⟨A, c, h1, h2, h3⟩ => ⟨A, c, h1, h2, h3.imp id fun ⟨b, o, e, hb, hr⟩ => ⟨b, o, e, hI b hb, RepRows.mono hI hw (hw b hb) xs o hr⟩⟩
  | .undef, _, h | .own .., _, h | .bor .., _, h | .elt .., _, h | .selt .., _, h | .box .., _, h | .ref .., _, h | .agg _, _, h | .tup _, _, h | .fn .., _, h => by simp [RepP] at h
theorem RepRows.mono {I I' : Nat → Prop} {w w' : World} (hI : ∀ b, I b → I' b) (hw : ∀ b, I b → w'.heap[b]? = w.heap[b]?) {b : Nat} (hb : w'.heap[b]? = w.heap[b]?) {z : Nat} :
    ∀ (xs : List (List TV)) (o : Nat), RepRows I w b o z xs → RepRows I' w' b o z xs
  | [], _, _ => by simp [RepRows]
  | r :: rs, o, h => by
    simp only [RepRows] at h ⊢
    exact ⟨h.1, RepRow.mono hI hw hb r o h.2.1, RepRows.mono hI hw hb rs _ h.2.2⟩
theorem RepRow.mono {I I' : Nat → Prop} {w w' : World} (hI : ∀ b, I b → I' b) (hw : ∀ b, I b → w'.heap[b]? = w.heap[b]?) {b : Nat} (hb : w'.heap[b]? = w.heap[b]?) :
    ∀ (ts : List TV) (o : Nat), RepRow I w b o ts → RepRow I' w' b o ts
  | [], _, _ => by simp [RepRow]
  | t :: ts, o, h => by
    simp only [RepRow] at h ⊢
    obtain ⟨⟨u, h1, h2⟩, h3⟩ := h
    exact ⟨⟨u, (World.cell?_of_block (w := w) hb).trans h1, RepP.mono hI hw t u h2⟩, RepRow.mono hI hw hb ts _ h3⟩
end

theorem RepP.cellV {I : Nat → Prop} {w : World} : ∀ {t : TV} {v : Value}, RepP I w t v → cellV v = true
  | .int _ _, _, h | .bool _, _, h | .str _, _, h | .nil _, _, h => by simp only [RepP] at h; subst h; rfl
  | .sl .., _, h => by simp only [RepP] at h; obtain ⟨A, c, rfl, _⟩ := h; rfl
  | .undef, _, h | .own .., _, h | .bor .., _, h | .elt .., _, h | .selt .., _, h | .box .., _, h | .ref .., _, h | .agg _, _, h | .tup _, _, h | .fn .., _, h => by simp [RepP] at h

section rep2
variable (η : Stamp → Value) (I : Nat → Prop) (w : World)

/-- A slice that is owned: its block, not frozen where it can be written, and its rows. -/
def OwnC (v : Value) (e z : Nat) (xs : List (List TV)) : Prop :=
  (xs = [] ∧ v = .slice none 0 0) ∨ ∃ b cap cur lo hi, v = .slice (some ⟨b, 0, none⟩) xs.length cap ∧ w.heap[b]? = some (.cells cur e (lo, hi)) ∧ xs.length ≤ cap ∧ cap ≤ 9223372036854775807 ∧
    cap * z ≤ cur.size ∧ (∀ i, i < cap * z → ¬ (lo ≤ i ∧ i < hi)) ∧ RepRows I w b 0 z xs

def blkOf : Value → List Nat
  | .slice (some a) _ _ => [a.block]
  | .pointer (some a) => [a.block]
  | _ => []

/-- A part of an owned slice. -/
def BorC (h v : Value) (z off len : Nat) : Prop :=
  ∃ A n cap A' cap', h = .slice A n cap ∧ off + len ≤ n ∧ v = .slice A' len cap' ∧ len ≤ cap' ∧ off + cap' ≤ cap ∧ (off = 0 → A' = A) ∧
    (len = 0 ∨ ∃ b, A = some ⟨b, 0, none⟩ ∧ A' = some ⟨b, off * z, none⟩)

mutual
def Rep : TV → Value → Prop
  | .undef, _ => True
  | .own g e z xs, v => v = η g ∧ OwnC I w v e z xs
  | .bor _ _ g _ z off len, v => BorC (η g) v z off len
  | .elt _ _ g _ z i j, v => ∃ b n c, η g = .slice (some ⟨b, 0, none⟩) n c ∧ i < n ∧ v = .pointer (some ⟨b, i * z + j, none⟩)
  | .selt row j, v => ∃ b o, I b ∧ RepRow I w b o row ∧ v = .pointer (some ⟨b, o + j, none⟩)
  | .box g cs, v => v = η g ∧ ∃ b cur e, v = .pointer (some ⟨b, 0, none⟩) ∧ w.heap[b]? = some (.cells cur e (0, 0)) ∧ RepCells cs cur.toList
  | .ref _ g off, v => ∃ b, η g = .pointer (some ⟨b, 0, none⟩) ∧ v = .pointer (some ⟨b, off, none⟩)
  | .agg cs, v => ∃ arr : Array Value, v = .agg arr ∧ RepCells cs arr.toList
  | .tup cs, v => ∃ arr : Array Value, v = .tuple arr ∧ RepVals cs arr.toList
  | .fn f caps, v => caps = [] ∧ v = .func (.func f) #[] #[]
  | t, v => RepP I w t v
/-- Cells: one cell's value each. -/
def RepCells : List TV → List Value → Prop
  | [], vs => vs = []
  | t :: ts, vs => ∃ v vs', vs = v :: vs' ∧ cellV v = true ∧ Rep t v ∧ RepCells ts vs'
def RepVals : List TV → List Value → Prop
  | [], vs => vs = []
  | t :: ts, vs => ∃ v vs', vs = v :: vs' ∧ Rep t v ∧ RepVals ts vs'
end

mutual
def fpT : TV → List Nat
  | .own g _ _ _ => blkOf (η g)
  | .box g cs => blkOf (η g) ++ fpL cs
  | .agg cs => fpL cs
  | .tup cs => fpL cs
  | _ => []
def fpL : List TV → List Nat
  | [] => []
  | t :: ts => fpT t ++ fpL ts
end
end rep2

mutual
/-- The stamps that are met. -/
def stT (U : Nat → Prop) : TV → Prop
  | .own g _ _ _ => U g.1
  | .bor _ _ g _ _ _ _ => U g.1
  | .elt _ _ g _ _ _ _ => U g.1
  | .box g cs => U g.1 ∧ stL U cs
  | .ref _ g _ => U g.1
  | .agg cs => stL U cs
  | .tup cs => stL U cs
  | _ => True
def stL (U : Nat → Prop) : List TV → Prop
  | [] => True
  | t :: ts => stT U t ∧ stL U ts
end

mutual
theorem stT.mono {U U' : Nat → Prop} (h : ∀ n, U n → U' n) : ∀ t : TV, stT U t → stT U' t
  | .own g _ _ _, k => h _ k
  | .bor _ _ g _ _ _ _, k => h _ k
  | .elt _ _ g _ _ _ _, k => h _ k
  | .ref _ g _, k => h _ k
  | .box g cs, k => by simp only [stT] at k ⊢; exact ⟨h _ k.1, stL.mono h cs k.2⟩
  | .agg cs, k => by simp only [stT] at k ⊢; exact stL.mono h cs k
  | .tup cs, k => by simp only [stT] at k ⊢; exact stL.mono h cs k
  | .undef, _ | .int .., _ | .bool _, _ | .str _, _ | .nil _, _ | .sl .., _ | .selt .., _ | .fn .., _ => by simp [stT]
theorem stL.mono {U U' : Nat → Prop} (h : ∀ n, U n → U' n) : ∀ ts : List TV, stL U ts → stL U' ts
  | [], _ => by simp [stL]
  | t :: ts, k => by simp only [stL] at k ⊢; exact ⟨stT.mono h t k.1, stL.mono h ts k.2⟩
end

mutual
theorem fpT.congr {U : Nat → Prop} {η η' : Stamp → Value} (h : ∀ g : Stamp, U g.1 → η' g = η g) : ∀ t : TV, stT U t → fpT η' t = fpT η t
  | .own g _ _ _, k => by simp only [fpT]; rw [h g k]
  | .box g cs, k => by simp only [stT] at k; simp only [fpT]; rw [h g k.1, fpL.congr h cs k.2]
  | .agg cs, k => by simp only [stT] at k; simp only [fpT]; rw [fpL.congr h cs k]
  | .tup cs, k => by simp only [stT] at k; simp only [fpT]; rw [fpL.congr h cs k]
  | .undef, _ | .int .., _ | .bool _, _ | .str _, _ | .nil _, _ | .sl .., _ | .selt .., _ | .fn .., _ | .bor .., _ | .elt .., _ | .ref .., _ => by simp [fpT]
theorem fpL.congr {U : Nat → Prop} {η η' : Stamp → Value} (h : ∀ g : Stamp, U g.1 → η' g = η g) : ∀ ts : List TV, stL U ts → fpL η' ts = fpL η ts
  | [], _ => by simp [fpL]
  | t :: ts, k => by simp only [stL] at k; simp only [fpL]; rw [fpT.congr h t k.1, fpL.congr h ts k.2]
end

theorem OwnC.mono {I I' : Nat → Prop} {w w' : World} {v : Value} {e z : Nat} {xs : List (List TV)} (hI : ∀ b, I b → I' b) (hw : ∀ b, I b → w'.heap[b]? = w.heap[b]?)
    (h : OwnC I w v e z xs) (hb : ∀ b ∈ blkOf v, w'.heap[b]? = w.heap[b]?) : OwnC I' w' v e z xs := by
  rcases h with h | ⟨b, cap, cur, lo, hi, hv, hh, h1, h2, h3, h4, h5⟩
  · exact .inl h
  · have e1 := hb b (by simp [hv, blkOf])
    exact .inr ⟨b, cap, cur, lo, hi, hv, by rw [e1]; exact hh, h1, h2, h3, h4, RepRows.mono hI hw e1 xs 0 h5⟩

section mono
variable {U : Nat → Prop} {η η' : Stamp → Value} {I I' : Nat → Prop} {w w' : World}
mutual
theorem Rep.mono (hη : ∀ g : Stamp, U g.1 → η' g = η g) (hI : ∀ b, I b → I' b) (hw : ∀ b, I b → w'.heap[b]? = w.heap[b]?) :
    ∀ (t : TV) (v : Value), stT U t → (∀ b ∈ fpT η t, w'.heap[b]? = w.heap[b]?) → Rep η I w t v → Rep η' I' w' t v
  | .undef, _, _, _, h => h
  | .int _ _, _, _, _, h => h
  | .bool _, _, _, _, h => h
  | .str _, _, _, _, h => h
  | .nil _, _, _, _, h => h
  | .sl z xs, v, _, _, h => by simp only [Rep] at h ⊢; exact RepP.mono hI hw _ _ h
  | .own g e z xs, v, k, hb, h => by
    simp only [Rep] at h ⊢
    obtain ⟨rfl, h2⟩ := h
    simp only [fpT] at hb
    exact ⟨(hη g k).symm, h2.mono hI hw hb⟩
  | .bor _ _ g _ _ _ _, v, k, _, h => by simp only [Rep] at h ⊢; rw [hη g k]; exact h
  | .elt _ _ g _ _ _ _, v, k, _, h => by simp only [Rep] at h ⊢; rw [hη g k]; exact h
  | .selt row j, v, _, _, h => by
    simp only [Rep] at h ⊢
    obtain ⟨b, o, h1, h2, h3⟩ := h
    exact ⟨b, o, hI b h1, RepRow.mono hI hw (hw b h1) row o h2, h3⟩
  | .box g cs, v, k, hb, h => by
    simp only [stT] at k
    simp only [Rep] at h ⊢
    simp only [fpT, List.mem_append] at hb
    obtain ⟨rfl, b, cur, e, h1, h2, h3⟩ := h
    exact ⟨(hη g k.1).symm, b, cur, e, h1, by rw [hb b (by simp [h1, blkOf])]; exact h2, RepCells.mono hη hI hw cs _ k.2 (fun b' hb' => hb b' (.inr hb')) h3⟩
  | .ref _ g off, v, k, _, h => by simp only [Rep] at h ⊢; rw [hη g k]; exact h
  | .agg cs, v, k, hb, h => by
    simp only [stT] at k
    simp only [Rep] at h ⊢
    simp only [fpT] at hb
    obtain ⟨arr, h1, h2⟩ := h
    exact ⟨arr, h1, RepCells.mono hη hI hw cs _ k hb h2⟩
  | .tup cs, v, k, hb, h => by
    simp only [stT] at k
    simp only [Rep] at h ⊢
    simp only [fpT] at hb
    obtain ⟨arr, h1, h2⟩ := h
    exact ⟨arr, h1, RepVals.mono hη hI hw cs _ k hb h2⟩
  | .fn _ _, _, _, _, h => h
theorem RepCells.mono (hη : ∀ g : Stamp, U g.1 → η' g = η g) (hI : ∀ b, I b → I' b) (hw : ∀ b, I b → w'.heap[b]? = w.heap[b]?) :
    ∀ (ts : List TV) (vs : List Value), stL U ts → (∀ b ∈ fpL η ts, w'.heap[b]? = w.heap[b]?) → RepCells η I w ts vs → RepCells η' I' w' ts vs
  | [], vs, _, _, h => by simpa [RepCells] using h
  | t :: ts, vs, k, hb, h => by
    simp only [stL] at k
    simp only [RepCells] at h ⊢
    simp only [fpL, List.mem_append] at hb
    obtain ⟨v, vs', h1, h2, h3, h4⟩ := h
    exact ⟨v, vs', h1, h2, Rep.mono hη hI hw t v k.1 (fun b hb' => hb b (.inl hb')) h3, RepCells.mono hη hI hw ts vs' k.2 (fun b hb' => hb b (.inr hb')) h4⟩
theorem RepVals.mono (hη : ∀ g : Stamp, U g.1 → η' g = η g) (hI : ∀ b, I b → I' b) (hw : ∀ b, I b → w'.heap[b]? = w.heap[b]?) :
    ∀ (ts : List TV) (vs : List Value), stL U ts → (∀ b ∈ fpL η ts, w'.heap[b]? = w.heap[b]?) → RepVals η I w ts vs → RepVals η' I' w' ts vs
  | [], vs, _, _, h => by simpa [RepVals] using h
  | t :: ts, vs, k, hb, h => by
    simp only [stL] at k
    simp only [RepVals] at h ⊢
    simp only [fpL, List.mem_append] at hb
    obtain ⟨v, vs', h1, h3, h4⟩ := h
    exact ⟨v, vs', h1, Rep.mono hη hI hw t v k.1 (fun b hb' => hb b (.inl hb')) h3, RepVals.mono hη hI hw ts vs' k.2 (fun b hb' => hb b (.inr hb')) h4⟩
end
end mono

/-- A pure value stands for itself. -/
theorem Rep_pure {η : Stamp → Value} {I : Nat → Prop} {w : World} : ∀ {t : TV} {v : Value}, RepP I w t v → Rep η I w t v
  | .int _ _, _, h | .bool _, _, h | .str _, _, h | .nil _, _, h | .sl _ _, _, h => by simpa [Rep] using h
  | .undef, _, h | .own .., _, h | .bor .., _, h | .elt .., _, h | .selt .., _, h | .box .., _, h | .ref .., _, h | .agg _, _, h | .tup _, _, h | .fn .., _, h => by simp [RepP] at h
theorem RepP_of {η : Stamp → Value} {I : Nat → Prop} {w : World} : ∀ {t : TV} {v : Value}, pureT t = true → Rep η I w t v → RepP I w t v
  | .int _ _, _, _, h | .bool _, _, _, h | .str _, _, _, h | .sl _ _, _, _, h => by simpa [Rep] using h
  | .undef, _, h, _ | .own .., _, h, _ | .bor .., _, h, _ | .elt .., _, h, _ | .selt .., _, h, _ | .box .., _, h, _ | .ref .., _, h, _ | .agg _, _, h, _ | .tup _, _, h, _ | .fn .., _, h, _ | .nil _, _, h, _ => by simp [pureT] at h

/-- What stays as it is below. -/
structure Kept (K : Nat → Prop) (w0 w : World) : Prop where
  os : w.os = w0.os
  tape : w.tape = w0.tape
  output : w.output = w0.output
  size : w0.heap.size ≤ w.heap.size
  block : ∀ b, K b → w.heap[b]? = w0.heap[b]?
theorem Kept.refl (K : Nat → Prop) (w : World) : Kept K w w := ⟨rfl, rfl, rfl, Nat.le_refl _, fun _ _ => rfl⟩
theorem Kept.trans {K K' : Nat → Prop} {a b c : World} (h : Kept K a b) (k : Kept K' b c) (hK : ∀ n, K n → K' n) : Kept K a c :=
  ⟨k.os.trans h.os, k.tape.trans h.tape, k.output.trans h.output, Nat.le_trans h.size k.size, fun i hi => (k.block i (hK i hi)).trans (h.block i hi)⟩

/-- The blocks that nobody owns, other than those set aside (at the stamps (0, _); 'drawn' of the world at the start names them, bit by bit). -/
def Imm (η : Stamp → Value) (f : Nat → TV) (w : World) (b : Nat) : Prop := b < w.heap.size ∧ (∀ j, b ∉ fpT η (f j)) ∧ ∀ c, b ∉ blkOf (η (0, c))

/-- What the slots say holds. -/
structure Sim (K : Nat → Prop) (w0 : World) (U : Nat → Prop) (f : Nat → TV) (vs : Nat → Value) (w : World) (η : Stamp → Value) : Prop where
  kept : Kept K w0 w
  klt : ∀ b, K b → b < w0.heap.size
  st : ∀ i, stT U (f i)
  fpK : ∀ i b, b ∈ fpT η (f i) → ¬ K b ∧ b < w.heap.size
  nd : ∀ i, (fpT η (f i)).Nodup
  dj : ∀ i j b, b ∈ fpT η (f i) → b ∈ fpT η (f j) → i = j
  rep : ∀ i, Rep η (Imm η f w) w (f i) (vs i)
  u0 : U 0
  rz : ∀ b, (∃ c, b ∈ blkOf (η (0, c))) ↔ w0.drawn.testBit b = true
  rK : ∀ b, w0.drawn.testBit b = true → K b

theorem Sim.rzK {K : Nat → Prop} {w0 : World} {U : Nat → Prop} {f : Nat → TV} {vs : Nat → Value} {w : World} {η : Stamp → Value} (h : Sim K w0 U f vs w η) (c b : Nat) (hb : b ∈ blkOf (η (0, c))) : K b :=
  h.rK b ((h.rz b).1 ⟨c, hb⟩)

/-- THE GENERAL STEP: slots of T turn, and what they own; all else stays. -/
theorem Sim.step {K : Nat → Prop} {w0 : World} {U U' : Nat → Prop} {f f' : Nat → TV} {vs vs' : Nat → Value} {w w' : World} {η η' : Stamp → Value}
    (h : Sim K w0 U f vs w η) (T : Nat → Prop) (hU : ∀ n, U n → U' n) (hη : ∀ g : Stamp, U g.1 → η' g = η g)
    (hk : Kept (fun b => b < w.heap.size ∧ ∀ i, T i → b ∉ fpT η (f i)) w w')
    (hf : ∀ i, ¬ T i → f' i = f i ∧ vs' i = vs i)
    (hst : ∀ i, T i → stT U' (f' i))
    (hfp : ∀ i, T i → ∀ b, b ∈ fpT η' (f' i) → (w.heap.size ≤ b ∧ b < w'.heap.size ∧ ¬ K b) ∨ ∃ j, T j ∧ b ∈ fpT η (f j))
    (hnd : ∀ i, T i → (fpT η' (f' i)).Nodup)
    (hdj : ∀ i j b, T i → T j → b ∈ fpT η' (f' i) → b ∈ fpT η' (f' j) → i = j)
    (hrep : (∀ b, Imm η f w b → Imm η' f' w' b) → (∀ b, Imm η f w b → w'.heap[b]? = w.heap[b]?) → ∀ i, T i → Rep η' (Imm η' f' w') w' (f' i) (vs' i)) :
    Sim K w0 U' f' vs' w' η' := by
  have hsame : ∀ i, ¬ T i → fpT η' (f' i) = fpT η (f i) := fun i hi => by rw [(hf i hi).1]; exact fpT.congr hη _ (h.st i)
  have hImm : ∀ b, Imm η f w b → Imm η' f' w' b := fun b hb => by
    refine ⟨Nat.lt_of_lt_of_le hb.1 hk.size, fun j hj => ?_, fun c => by rw [hη (0, c) h.u0]; exact hb.2.2 c⟩
    by_cases hT : T j
    · rcases hfp j hT b hj with h1 | ⟨i, _, hi⟩
      · exact absurd hb.1 (by omega)
      · exact hb.2.1 i hi
    · rw [hsame j hT] at hj; exact hb.2.1 j hj
  have hw : ∀ b, Imm η f w b → w'.heap[b]? = w.heap[b]? := fun b hb => hk.block b ⟨hb.1, fun i _ => hb.2.1 i⟩
  refine ⟨h.kept.trans hk (fun b hb => ?_), h.klt, fun i => ?_, fun i b hb => ?_, fun i => ?_, fun i j b hi hj => ?_, fun i => ?_, hU 0 h.u0, fun b => by
    have e : ∀ c, η' (0, c) = η (0, c) := fun c => hη (0, c) h.u0
    simp only [e]; exact h.rz b, h.rK⟩
  · exact ⟨Nat.lt_of_lt_of_le (h.klt b hb) h.kept.size, fun i _ hi => (h.fpK i b hi).1 hb⟩
  · by_cases hT : T i
    · exact hst i hT
    · rw [(hf i hT).1]; exact stT.mono hU _ (h.st i)
  · by_cases hT : T i
    · rcases hfp i hT b hb with h1 | ⟨j, _, hj⟩
      · exact ⟨h1.2.2, h1.2.1⟩
      · exact ⟨(h.fpK j b hj).1, Nat.lt_of_lt_of_le (h.fpK j b hj).2 hk.size⟩
    · rw [hsame i hT] at hb; exact ⟨(h.fpK i b hb).1, Nat.lt_of_lt_of_le (h.fpK i b hb).2 hk.size⟩
  · by_cases hT : T i
    · exact hnd i hT
    · rw [hsame i hT]; exact h.nd i
  · by_cases hTi : T i <;> by_cases hTj : T j
    · exact hdj i j b hTi hTj hi hj
    · exfalso
      rw [hsame j hTj] at hj
      rcases hfp i hTi b hi with h1 | ⟨k, hk1, hk2⟩
      · have := (h.fpK j b hj).2; omega
      · exact hTj (h.dj k j b hk2 hj ▸ hk1)
    · exfalso
      rw [hsame i hTi] at hi
      rcases hfp j hTj b hj with h1 | ⟨k, hk1, hk2⟩
      · have := (h.fpK i b hi).2; omega
      · exact hTi (h.dj k i b hk2 hi ▸ hk1)
    · rw [hsame i hTi] at hi; rw [hsame j hTj] at hj; exact h.dj i j b hi hj
  · by_cases hT : T i
    · exact hrep hImm hw i hT
    · rw [(hf i hT).1, (hf i hT).2]
      refine Rep.mono hη hImm hw _ _ (h.st i) (fun b hb => hk.block b ⟨(h.fpK i b hb).2, fun j hj hb' => ?_⟩) (h.rep i)
      exact hT (h.dj j i b hb' hb ▸ hj)
end Go.Vm
