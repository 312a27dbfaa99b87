/- Plain texts, and columns. -/
import Derived.Test.YtljgpcaljedhpaaDoorY0
import Derived.Lib.DecodeN
import Derived.Lib.SplitLaws
namespace Go.Proofs.YtljgpcaljedhpaaDoor

/-- Texts of ASCII without line feeds, and of é. -/
inductive Plain : List UInt8 → Prop
  | nil : Plain []
  | one (b : UInt8) (r : List UInt8) : b.toNat < 128 → b ≠ 10 → Plain r → Plain (b :: r)
  | two (r : List UInt8) : Plain r → Plain (195 :: 169 :: r)

/-- How many characters. -/
def cnt (l : List UInt8) : Nat := l.countP (fun b => b != 169)

theorem Plain.append {a b : List UInt8} (ha : Plain a) (hb : Plain b) : Plain (a ++ b) := by
  induction ha with
  | nil => exact hb
  | one c r h1 h2 _ ih => exact .one c _ h1 h2 ih
  | two r _ ih => exact .two _ ih
theorem cnt_append (a b : List UInt8) : cnt (a ++ b) = cnt a + cnt b := List.countP_append
theorem cnt_le (a : List UInt8) : cnt a ≤ a.length := List.countP_le_length
theorem Plain.no10 {a : List UInt8} (ha : Plain a) : (10 : UInt8) ∉ a := by
  induction ha with
  | nil => simp
  | one c r _ h2 _ ih => simp only [List.mem_cons, not_or]; exact ⟨fun e => h2 e.symm, ih⟩
  | two r _ ih => simp only [List.mem_cons, not_or]; exact ⟨by decide, by decide, ih⟩
theorem plain_spaces : ∀ k, Plain (Lib.repeatL [32] k)
  | 0 => .nil
  | k + 1 => .one 32 _ (by decide) (by decide) (plain_spaces k)

theorem get_pre (pre t : List UInt8) (j : Nat) : (ByteArray.mk (pre ++ t).toArray).get! (pre.length + j) = t.getD j 0 := by
  show (pre ++ t).toArray[pre.length + j]! = _
  rw [getElem!_def]
  simp only [List.getElem?_toArray, List.getElem?_append_right (Nat.le_add_right _ _), Nat.add_sub_cancel_left]
  rw [List.getD_eq_getElem?_getD]
  cases t[j]? <;> rfl

theorem count_pre {t : List UInt8} (h : Plain t) : ∀ (pre : List UInt8) (fuel : Nat), t.length ≤ fuel → Lib.runeCountFrom ⟨(pre ++ t).toArray⟩ fuel pre.length = cnt t := by
  induction h with
  | nil =>
    intro pre fuel _
    rw [Lib.runeCountFrom_end _ _ _ (by show ¬ pre.length < (pre ++ []).toArray.size; simp)]
    rfl
  | one b r h1 h2 _ ih =>
    intro pre fuel hf
    cases fuel with
    | zero => simp at hf
    | succ fuel =>
      unfold Lib.runeCountFrom
      rw [if_pos (by show pre.length < (pre ++ b :: r).toArray.size; simp), Lib.decode_at]
      have g0 := get_pre pre (b :: r) 0
      rw [Nat.add_zero] at g0
      rw [g0]
      unfold Lib.decodeN
      rw [if_pos (by simpa using h1)]
      have hi := ih (pre ++ [b]) fuel (by simp at hf; omega)
      rw [List.append_assoc, List.length_append] at hi
      show 1 + Lib.runeCountFrom ⟨(pre ++ ([b] ++ r)).toArray⟩ fuel (pre.length + [b].length) = _
      rw [hi]
      unfold cnt
      rw [List.countP_cons, if_pos (by
        have : b ≠ 169 := by rintro rfl; simp at h1
        simpa using this)]
      omega
  | two r _ ih =>
    intro pre fuel hf
    cases fuel with
    | zero => simp at hf
    | succ fuel =>
      unfold Lib.runeCountFrom
      rw [if_pos (by show pre.length < (pre ++ 195 :: 169 :: r).toArray.size; simp), Lib.decode_at]
      have g0 := get_pre pre (195 :: 169 :: r) 0
      have g1 := get_pre pre (195 :: 169 :: r) 1
      rw [Nat.add_zero] at g0
      rw [g0, g1]
      have hs : 1 < (ByteArray.mk (pre ++ 195 :: 169 :: r).toArray).size - pre.length := by
        show 1 < (pre ++ 195 :: 169 :: r).toArray.size - pre.length
        simp
      generalize (ByteArray.mk (pre ++ 195 :: 169 :: r).toArray).size - pre.length = n at *
      have hd : ∀ x y, (Lib.decodeN n ((195 :: 169 :: r).getD 0 0).toNat ((195 :: 169 :: r).getD 1 0).toNat x y).2 = 2 := by
        intro x y
        show (Lib.decodeN n 195 169 x y).2 = 2
        unfold Lib.decodeN
        rw [if_neg (by decide), if_pos ⟨by decide, hs, by decide⟩, if_pos (by decide)]
      rw [hd]
      have hi := ih (pre ++ [195, 169]) fuel (by simp at hf; omega)
      rw [List.append_assoc, List.length_append] at hi
      refine (congrArg (1 + ·) hi).trans ?_
      show 1 + cnt r = cnt (195 :: 169 :: r)
      unfold cnt
      rw [List.countP_cons, List.countP_cons, if_neg (by decide), if_pos (by decide)]
      omega

theorem count_plain {t : List UInt8} (h : Plain t) : Lib.runeCount ⟨t.toArray⟩ = cnt t := by
  have := count_pre h [] t.length (Nat.le_refl _)
  simpa [Lib.runeCount, ByteArray.size] using this

theorem last_none {s : ByteArray} (h : (10 : UInt8) ∉ s.data.toList) : Lib.lastIndexByte s 10 = -1 := by
  rcases Lib.lastIndexByte_spec s 10 with ⟨h1, _⟩ | ⟨i, hi, _, h3, _⟩
  · exact h1
  · exfalso
    apply h
    have hi' : i < s.data.size := hi
    have e : s.data[i]! = s.data[i] := getElem!_pos s.data i hi'
    have : s.data[i] = 10 := by
      rw [e] at h3
      apply UInt8.toNat_inj.1
      show s.data[i].toNat = 10
      omega
    rw [← this]
    exact Array.getElem_mem_toList hi'
theorem nlB_none {s : ByteArray} (h : (10 : UInt8) ∉ s.data.toList) : nlB s = false := by
  unfold nlB Lib.contains
  rw [Lib.index_one]
  by_cases h0 : 0 ≤ Lib.indexByte s.data.toList 10
  · exfalso
    obtain ⟨k, hk⟩ : ∃ k : Nat, Lib.indexByte s.data.toList 10 = k := ⟨_, (Int.toNat_of_nonneg h0).symm⟩
    exact h (List.mem_of_getElem? (Lib.indexByte_some hk).1)
  · exact decide_eq_false h0
theorem col_plain {c : Int} {s : ByteArray} (h : Plain s.data.toList) : colP c s = c + (cnt s.data.toList : Int) := by
  unfold colP
  rw [last_none h.no10, if_neg (by decide)]
  have := count_plain h
  rw [show (⟨s.data.toList.toArray⟩ : ByteArray) = s from by cases s; simp] at this
  rw [this]
end Go.Proofs.YtljgpcaljedhpaaDoor
