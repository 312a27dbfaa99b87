/- Characters of a text, valid or not: the first bytes of runes; lines; what the reference counts is what the program counts. Plain Lean, no program. -/
/- The reference as plain Lean functions, and that it computes what the program computes. No program in sight. -/
import Derived.Test.YtljgpcaljedhpaaDoorX7
import Derived.Test.YtljgpcaljedhpaaDoorP1
import Derived.Lib.ValidLaws
import Derived.Lib.Bits
import Derived.Test.YtljgpcaljedhpaaDoorP2
namespace Go.Proofs.YtljgpcaljedhpaaDoor

/-- How wide the first character is. -/
def wid (l : List UInt8) : Nat := (Lib.decodeL l).2
/-- Could a byte be the first one of a character? -/
def startB (b : UInt8) : Bool := Lib.runeStart (b.toNat : Int)
theorem startB_iff (b : UInt8) : startB b = true ↔ b.toNat / 64 ≠ 2 := by
  unfold startB Lib.runeStart
  simp only [bne_iff_ne, ne_eq]
  omega

set_option maxRecDepth 100000 in
set_option maxHeartbeats 4000000 in
theorem decN_cases (n b0 b1 b2 b3 : Nat) (h0 : b0 < 256) :
    ((Lib.decodeN n b0 b1 b2 b3).2 = 1 ∧ ((b0 < 128 ∧ (Lib.decodeN n b0 b1 b2 b3).1 = b0) ∨ (128 ≤ b0 ∧ (Lib.decodeN n b0 b1 b2 b3).1 = 65533))) ∨
    ((Lib.decodeN n b0 b1 b2 b3).2 = 2 ∧ b0 / 64 = 3 ∧ (1 < n ∧ b1 / 64 = 2) ∧ 128 ≤ (Lib.decodeN n b0 b1 b2 b3).1) ∨
    ((Lib.decodeN n b0 b1 b2 b3).2 = 3 ∧ b0 / 64 = 3 ∧ (1 < n ∧ b1 / 64 = 2) ∧ (2 < n ∧ b2 / 64 = 2) ∧ 128 ≤ (Lib.decodeN n b0 b1 b2 b3).1) ∨
    ((Lib.decodeN n b0 b1 b2 b3).2 = 4 ∧ b0 / 64 = 3 ∧ (1 < n ∧ b1 / 64 = 2) ∧ (2 < n ∧ b2 / 64 = 2) ∧ (3 < n ∧ b3 / 64 = 2) ∧ 128 ≤ (Lib.decodeN n b0 b1 b2 b3).1) := by
  unfold Lib.decodeN
  repeat' split
  all_goals first
    | exact .inl ⟨rfl, .inl ⟨by omega, rfl⟩⟩
    | exact .inl ⟨rfl, .inr ⟨by omega, rfl⟩⟩
    | exact .inr (.inl ⟨rfl, by omega, by omega, by simp only; omega⟩)
    | exact .inr (.inr (.inl ⟨rfl, by omega, by omega, by omega, by simp only; omega⟩))
    | exact .inr (.inr (.inr ⟨rfl, by omega, by omega, by omega, by omega, by simp only; omega⟩))
    | (exfalso; omega)

theorem getD_some {l : List UInt8} {j : Nat} (h : j < l.length) : l[j]? = some (l.getD j 0) := by
  rw [List.getD_eq_getElem?_getD, List.getElem?_eq_getElem h]; rfl

theorem wid_cont (l : List UInt8) (j : Nat) (h1 : 1 ≤ j) (h2 : j < wid l) : ∃ b, l[j]? = some b ∧ startB b = false := by
  unfold wid at h2
  rw [Lib.decodeL_N] at h2
  have hc := decN_cases l.length (l.getD 0 0).toNat (l.getD 1 0).toNat (l.getD 2 0).toNat (l.getD 3 0).toNat (l.getD 0 0).toNat_lt
  have key : j < l.length ∧ (l.getD j 0).toNat / 64 = 2 := by
    rcases hc with h | h | h | h
    · omega
    · obtain rfl : j = 1 := by omega
      exact h.2.2.1
    · rcases (show j = 1 ∨ j = 2 by omega) with rfl | rfl
      · exact h.2.2.1
      · exact h.2.2.2.1
    · rcases (show j = 1 ∨ j = 2 ∨ j = 3 by omega) with rfl | rfl | rfl
      · exact h.2.2.1
      · exact h.2.2.2.1
      · exact h.2.2.2.2.1
  refine ⟨l.getD j 0, getD_some key.1, ?_⟩
  rw [Bool.eq_false_iff, ne_eq, startB_iff]
  omega

theorem wid_start (l : List UInt8) (hv : ¬ ((Lib.decodeL l).1 = 65533 ∧ (Lib.decodeL l).2 = 1)) : startB (l.getD 0 0) = true := by
  rw [startB_iff]
  rw [Lib.decodeL_N] at hv
  have hc := decN_cases l.length (l.getD 0 0).toNat (l.getD 1 0).toNat (l.getD 2 0).toNat (l.getD 3 0).toNat (l.getD 0 0).toNat_lt
  have hlt := (l.getD 0 0).toNat_lt
  rcases hc with h | h | h | h
  · rcases h.2 with h2 | h2
    · omega
    · exact absurd ⟨h2.2, h.1⟩ hv
  · omega
  · omega
  · omega

theorem wid_pos (l : List UInt8) : 1 ≤ wid l := Lib.decodeL_width l
theorem wid_le (l : List UInt8) (h : l ≠ []) : wid l ≤ l.length := Lib.decodeL_le l h
theorem dec_ten (l : List UInt8) : (Lib.decodeL l).1 = 10 ↔ (l.getD 0 0).toNat = 10 := by
  rw [Lib.decodeL_N]
  have hc := decN_cases l.length (l.getD 0 0).toNat (l.getD 1 0).toNat (l.getD 2 0).toNat (l.getD 3 0).toNat (l.getD 0 0).toNat_lt
  omega

/-- The first bytes of characters. -/
def starts (l : List UInt8) : Nat := l.countP startB
theorem starts_append (a b : List UInt8) : starts (a ++ b) = starts a + starts b := List.countP_append
theorem starts_take (l : List UInt8) (hne : l ≠ []) (hv : ¬ ((Lib.decodeL l).1 = 65533 ∧ (Lib.decodeL l).2 = 1)) : starts (l.take (wid l)) = 1 := by
  have h1 := wid_start l hv
  have hp := wid_pos l
  have hc := wid_cont l
  generalize wid l = k at *
  obtain ⟨b, t, rfl⟩ : ∃ b t, l = b :: t := by cases l with | nil => exact absurd rfl hne | cons b t => exact ⟨b, t, rfl⟩
  obtain ⟨k, rfl⟩ : ∃ q, k = q + 1 := ⟨k - 1, by omega⟩
  rw [List.take_succ_cons]
  unfold starts
  have h1' : startB b = true := h1
  rw [List.countP_cons, if_pos h1']
  have : List.countP startB (t.take k) = 0 := by
    rw [List.countP_eq_zero]
    intro a ha
    obtain ⟨j, hj⟩ := List.getElem?_of_mem ha
    have hjk : j < k := by
      have := (List.getElem?_eq_some_iff.1 hj).1
      rw [List.length_take] at this
      omega
    rw [List.getElem?_take_of_lt hjk] at hj
    obtain ⟨b', hb', hs⟩ := hc (j + 1) (by omega) (by omega)
    rw [List.getElem?_cons_succ, hj] at hb'
    obtain rfl := Option.some.inj hb'
    simp [hs]
  omega

/-- How many characters, over lists. -/
def rcL : Nat → List UInt8 → Nat
  | 0, _ => 0
  | f + 1, l => if l = [] then 0 else 1 + rcL f (l.drop (wid l))
theorem rcL_eq (s : ByteArray) : ∀ f pos, Lib.runeCountFrom s f pos = rcL f (s.data.toList.drop pos)
  | 0, _ => rfl
  | f + 1, pos => by
    unfold Lib.runeCountFrom rcL
    rw [← Lib.decodeL_drop, rcL_eq s f]
    have hl : s.data.toList.length = s.size := data_len s
    by_cases h : pos < s.size
    · rw [if_pos h, if_neg (by intro e; have := congrArg List.length e; rw [List.length_drop] at this; simp at this; have h2 : s.data.size = s.size := rfl; omega)]
      unfold wid
      rw [List.drop_drop]
    · rw [if_neg h, if_pos (List.drop_eq_nil_of_le (by omega))]
theorem rcL_fuel : ∀ (f g : Nat) (l : List UInt8), l.length ≤ f → l.length ≤ g → rcL f l = rcL g l
  | 0, g, l, hf, hg => by
    obtain rfl : l = [] := List.eq_nil_of_length_eq_zero (by omega)
    cases g <;> simp [rcL]
  | f + 1, 0, l, hf, hg => by
    obtain rfl : l = [] := List.eq_nil_of_length_eq_zero (by omega)
    simp [rcL]
  | f + 1, g + 1, l, hf, hg => by
    unfold rcL
    by_cases h : l = []
    · rw [if_pos h, if_pos h]
    · have := wid_pos l
      rw [if_neg h, if_neg h, rcL_fuel f g _ (by rw [List.length_drop]; omega) (by rw [List.length_drop]; omega)]
def rc (l : List UInt8) : Nat := rcL l.length l
theorem rc_nil : rc [] = 0 := rfl
theorem rc_step (l : List UInt8) (h : l ≠ []) : rc l = 1 + rc (l.drop (wid l)) := by
  have hl := List.length_pos_iff.2 h
  have := wid_pos l
  unfold rc
  rw [rcL_fuel l.length (l.length - 1 + 1) l (by omega) (by omega)]
  show (if l = [] then 0 else _) = _
  rw [if_neg h, rcL_fuel _ (l.drop (wid l)).length _ (by rw [List.length_drop]; omega) (Nat.le_refl _)]
theorem rc_eq (s : ByteArray) : Lib.runeCount s = rc s.data.toList := by
  unfold Lib.runeCount rc
  rw [rcL_eq, data_len]
  rfl

theorem len_ind {P : List UInt8 → Prop} (h : ∀ l, (∀ r : List UInt8, r.length < l.length → P r) → P l) (l : List UInt8) : P l := by
  suffices ∀ n l, l.length ≤ n → P l from this l.length l (Nat.le_refl _)
  intro n
  induction n with
  | zero => intro l hl; exact h l fun r hr => by omega
  | succ n ih => intro l hl; exact h l fun r hr => ih r (by omega)

theorem drop_short (l : List UInt8) (h : l ≠ []) : (l.drop (wid l)).length < l.length := by
  have := wid_pos l
  have := List.length_pos_iff.2 h
  rw [List.length_drop]; omega

theorem rc_valid (l : List UInt8) : Lib.validD l = true → rc l = starts l := by
  refine len_ind (P := fun l => Lib.validD l = true → rc l = starts l) (fun l ih hv => ?_) l
  by_cases h : l = []
  · subst h; rfl
  · rw [Lib.validD_step l h] at hv
    split at hv
    · cases hv
    · rename_i hn
      rw [rc_step l h, ih _ (drop_short l h) hv]
      have e : starts l = starts (l.take (wid l)) + starts (l.drop (wid l)) := by rw [← starts_append, List.take_append_drop]
      rw [e, starts_take l h hn]

set_option maxRecDepth 100000 in
set_option maxHeartbeats 4000000 in
theorem decode_cut (a r : List UInt8) (hne : a ≠ []) : Lib.decodeL (a ++ 10 :: r) = Lib.decodeL a := by
  rw [Lib.decodeL_N, Lib.decodeL_N]
  match a, hne with
  | [x], _ =>
    show Lib.decodeN ([x] ++ 10 :: r).length x.toNat (10 : UInt8).toNat _ _ = Lib.decodeN 1 x.toNat (0 : UInt8).toNat (0 : UInt8).toNat (0 : UInt8).toNat
    unfold Lib.decodeN
    simp
  | [x, y], _ =>
    have hl : 1 < ([x, y] ++ 10 :: r).length := by simp
    show Lib.decodeN ([x, y] ++ 10 :: r).length x.toNat y.toNat (10 : UInt8).toNat _ = Lib.decodeN 2 x.toNat y.toNat (0 : UInt8).toNat (0 : UInt8).toNat
    generalize ([x, y] ++ 10 :: r).length = n at *
    unfold Lib.decodeN
    simp [hl]
  | [x, y, z], _ =>
    have hl : 2 < ([x, y, z] ++ 10 :: r).length := by simp
    show Lib.decodeN ([x, y, z] ++ 10 :: r).length x.toNat y.toNat z.toNat (10 : UInt8).toNat = Lib.decodeN 3 x.toNat y.toNat z.toNat (0 : UInt8).toNat
    generalize ([x, y, z] ++ 10 :: r).length = n at *
    have h1 : 1 < n := by omega
    unfold Lib.decodeN
    simp [hl, h1]
  | x :: y :: z :: w :: t, _ =>
    have hl : 3 < (x :: y :: z :: w :: t ++ 10 :: r).length := by simp
    have hm : 3 < (x :: y :: z :: w :: t).length := by simp
    show Lib.decodeN (x :: y :: z :: w :: t ++ 10 :: r).length x.toNat y.toNat z.toNat w.toNat = Lib.decodeN (x :: y :: z :: w :: t).length x.toNat y.toNat z.toNat w.toNat
    generalize (x :: y :: z :: w :: t ++ 10 :: r).length = n at *
    generalize (x :: y :: z :: w :: t).length = m at *
    have h1 : 1 < n := by omega
    have h2 : 2 < n := by omega
    have k1 : 1 < m := by omega
    have k2 : 2 < m := by omega
    unfold Lib.decodeN
    simp only [hl, hm, h1, h2, k1, k2, true_and]
theorem drop_cut (a r : List UInt8) (hne : a ≠ []) : (a ++ 10 :: r).drop (wid (a ++ 10 :: r)) = a.drop (wid a) ++ 10 :: r := by
  have h : wid (a ++ 10 :: r) = wid a := by unfold wid; rw [decode_cut a r hne]
  rw [h, List.drop_append_of_le_length (wid_le a hne)]
theorem valid_cut (r a : List UInt8) : Lib.validD (a ++ 10 :: r) = (Lib.validD a && Lib.validD r) := by
  refine len_ind (P := fun a => Lib.validD (a ++ 10 :: r) = (Lib.validD a && Lib.validD r)) (fun a ih => ?_) a
  by_cases h : a = []
  · subst h
    rw [List.nil_append, Lib.validD_cons 10 r (by decide), Lib.validD_nil]; rfl
  · have hd := drop_cut a r h
    unfold wid at hd
    rw [Lib.validD_step _ (by simp), Lib.validD_step a h, decode_cut a r h]
    rw [decode_cut a r h] at hd
    split
    · rfl
    · rw [hd]; exact ih _ (drop_short a h)

/-- The characters behind the last line feed, from so many on: as the reference counts them. -/
def feedW : List UInt8 → Nat → Nat
  | [], w => w
  | b :: r, w => if b = 10 then feedW r 0 else feedW r (if startB b = true then w + 1 else w)
theorem feedW_no : ∀ (l : List UInt8) (w : Nat), (10 : UInt8) ∉ l → feedW l w = w + starts l
  | [], _, _ => rfl
  | b :: r, w, h => by
    have hb : ¬ b = 10 := fun e => h (by rw [e]; simp)
    have hr : (10 : UInt8) ∉ r := fun e => h (by simp [e])
    unfold feedW
    rw [if_neg hb, feedW_no r _ hr]
    unfold starts
    rw [List.countP_cons]
    split <;> omega
theorem feedW_cut (r : List UInt8) : ∀ (a : List UInt8) (w : Nat), feedW (a ++ 10 :: r) w = feedW r 0
  | [], w => by
    show (if (10 : UInt8) = 10 then _ else _) = _
    rw [if_pos rfl]
  | b :: a, w => by
    show (if b = 10 then feedW (a ++ 10 :: r) 0 else feedW (a ++ 10 :: r) (if startB b = true then w + 1 else w)) = _
    split
    · exact feedW_cut r a _
    · exact feedW_cut r a _

theorem ext_tail (s : ByteArray) (i : Nat) : (s.extract i s.size).data.toList = s.data.toList.drop i := by
  rw [Lib.extract_to_end]
theorem last_some {s : ByteArray} {i : Nat} (h : Lib.lastIndexByte s 10 = i) : i < s.data.toList.length ∧ s.data.toList = s.data.toList.take i ++ 10 :: s.data.toList.drop (i + 1) ∧ (10 : UInt8) ∉ s.data.toList.drop (i + 1) := by
  rcases Lib.lastIndexByte_spec s 10 with ⟨h1, _⟩ | ⟨k, hk, h1, h3, h4⟩
  · omega
  · obtain rfl : k = i := by omega
    have hk' : k < s.data.size := hk
    have hkl : k < s.data.toList.length := by rw [Array.length_toList]; exact hk'
    have at_ : ∀ j, j < s.data.size → s.data[j]! = s.data.toList[j]! := fun j hj => by
      rw [getElem!_pos s.data j hj, getElem!_pos s.data.toList j (by rw [Array.length_toList]; exact hj), Array.getElem_toList]
    have e10 : ∀ b : UInt8, ((b.toNat : Int) = 10) ↔ b = 10 := fun b => by
      constructor
      · intro h; apply UInt8.toNat_inj.1; show b.toNat = 10; omega
      · rintro rfl; rfl
    have hb : s.data.toList[k] = 10 := by
      rw [at_ k hk', e10, getElem!_pos s.data.toList k hkl] at h3
      exact h3
    refine ⟨hkl, ?_, ?_⟩
    · rw [← hb, ← List.drop_eq_getElem_cons hkl, List.take_append_drop]
    · intro hm
      obtain ⟨j, hj⟩ := List.getElem?_of_mem hm
      rw [List.getElem?_drop] at hj
      obtain ⟨hlt, he⟩ := List.getElem?_eq_some_iff.1 hj
      have hlt' : k + 1 + j < s.data.size := by rw [← Array.length_toList]; exact hlt
      have := h4 (k + 1 + j) (by omega) hlt'
      rw [at_ _ hlt', getElem!_pos s.data.toList _ hlt, he] at this
      exact this rfl

/-- The column behind a valid text, by the reference's count. -/
theorem feed_col (c : Int) (s : ByteArray) (hv : Lib.validD s.data.toList = true) :
    colP c s = (if 0 < Lib.countByte s.data.toList 10 then 0 else c) + (feedW s.data.toList 0 : Int) := by
  unfold colP
  by_cases h : 0 ≤ Lib.lastIndexByte s 10
  · obtain ⟨i, hi⟩ : ∃ i : Nat, Lib.lastIndexByte s 10 = i := ⟨_, (Int.toNat_of_nonneg h).symm⟩
    obtain ⟨hil, hsp, hno⟩ := last_some hi
    rw [if_pos h, hi, show ((i : Int) + 1).toNat = i + 1 by omega, rc_eq, ext_tail]
    have hvr : Lib.validD (s.data.toList.drop (i + 1)) = true := by
      rw [hsp, valid_cut] at hv
      exact (Bool.and_eq_true_iff.1 hv).2
    have hf : feedW s.data.toList 0 = rc (s.data.toList.drop (i + 1)) := by
      rw [rc_valid _ hvr]
      conv => lhs; rw [hsp]
      rw [feedW_cut, feedW_no _ _ hno, Nat.zero_add]
    have hcnt : 0 < Lib.countByte s.data.toList 10 := by
      unfold Lib.countByte
      rw [List.count_pos_iff, hsp]
      simp
    rw [if_pos hcnt, hf]
    omega
  · rw [if_neg h]
    have hno : (10 : UInt8) ∉ s.data.toList := by
      intro hm
      rcases Lib.lastIndexByte_spec s 10 with ⟨h1, h2⟩ | ⟨k, hk, h1, h3, h4⟩
      · obtain ⟨j, hj⟩ := List.getElem?_of_mem hm
        obtain ⟨hlt, he⟩ := List.getElem?_eq_some_iff.1 hj
        have hlt' : j < s.data.size := by rw [← Array.length_toList]; exact hlt
        have := h2 j hlt'
        rw [getElem!_pos s.data j hlt', ← Array.getElem_toList, he] at this
        exact this rfl
      · omega
    have hcnt : ¬ 0 < Lib.countByte s.data.toList 10 := by
      unfold Lib.countByte
      rw [List.count_pos_iff]
      exact hno
    rw [if_neg hcnt, rc_eq, rc_valid _ hv, feedW_no _ _ hno, Nat.zero_add]

/-- Width, as the reference counts it. -/
def wR : Nat → List UInt8 → Nat → Nat → Nat
  | 0, _, _, m => m
  | f + 1, l, n, m => if l = [] then m else if (Lib.decodeL l).1 = 10 then wR f (l.drop (wid l)) 0 m else wR f (l.drop (wid l)) (n + 1) (max m (n + 1))
theorem wR_fuel : ∀ (f g : Nat) (l : List UInt8) (n m : Nat), l.length ≤ f → l.length ≤ g → wR f l n m = wR g l n m
  | 0, g, l, n, m, hf, hg => by
    obtain rfl : l = [] := List.eq_nil_of_length_eq_zero (by omega)
    cases g <;> simp [wR]
  | f + 1, 0, l, n, m, hf, hg => by
    obtain rfl : l = [] := List.eq_nil_of_length_eq_zero (by omega)
    simp [wR]
  | f + 1, g + 1, l, n, m, hf, hg => by
    unfold wR
    by_cases h : l = []
    · rw [if_pos h, if_pos h]
    · have := wid_pos l
      rw [if_neg h, if_neg h, wR_fuel f g _ _ _ (by rw [List.length_drop]; omega) (by rw [List.length_drop]; omega), wR_fuel f g _ _ _ (by rw [List.length_drop]; omega) (by rw [List.length_drop]; omega)]
def widthL (l : List UInt8) (n m : Nat) : Nat := wR l.length l n m
theorem widthL_nil (n m : Nat) : widthL [] n m = m := rfl
theorem widthL_step (l : List UInt8) (n m : Nat) (h : l ≠ []) : widthL l n m = if (l.getD 0 0).toNat = 10 then widthL (l.drop (wid l)) 0 m else widthL (l.drop (wid l)) (n + 1) (max m (n + 1)) := by
  have hl := List.length_pos_iff.2 h
  have := wid_pos l
  unfold widthL
  rw [wR_fuel l.length (l.length - 1 + 1) l _ _ (by omega) (by omega)]
  show (if l = [] then m else if (Lib.decodeL l).1 = 10 then _ else _) = _
  rw [if_neg h, wR_fuel _ (l.drop (wid l)).length _ 0 m (by rw [List.length_drop]; omega) (Nat.le_refl _), wR_fuel _ (l.drop (wid l)).length _ (n + 1) (max m (n + 1)) (by rw [List.length_drop]; omega) (Nat.le_refl _)]
  by_cases h10 : (Lib.decodeL l).1 = 10
  · rw [if_pos h10, if_pos ((dec_ten l).1 h10)]
  · rw [if_neg h10, if_neg (fun e => h10 ((dec_ten l).2 e))]
theorem head_no {a : List UInt8} (h : a ≠ []) (hno : (10 : UInt8) ∉ a) (r : List UInt8) : ¬ ((a ++ r).getD 0 0).toNat = 10 := by
  obtain ⟨b, t, rfl⟩ : ∃ b t, a = b :: t := by cases a with | nil => exact absurd rfl h | cons b t => exact ⟨b, t, rfl⟩
  show ¬ b.toNat = 10
  intro e
  apply hno
  have : b = 10 := UInt8.toNat_inj.1 e
  rw [this]; simp
theorem widthL_line (r : List UInt8) (a : List UInt8) : (10 : UInt8) ∉ a → ∀ n m, n ≤ m → widthL (a ++ 10 :: r) n m = widthL r 0 (max m (n + rc a)) := by
  refine len_ind (P := fun a => (10 : UInt8) ∉ a → ∀ n m, n ≤ m → widthL (a ++ 10 :: r) n m = widthL r 0 (max m (n + rc a))) (fun a ih hno n m hnm => ?_) a
  by_cases h : a = []
  · subst h
    rw [List.nil_append, widthL_step _ _ _ (by simp), if_pos (by rfl)]
    have : wid (10 :: r) = 1 := by unfold wid; rw [Lib.decodeL_ascii 10 r (by decide)]
    rw [this, rc_nil, Nat.add_zero, Nat.max_eq_left hnm]
    rfl
  · rw [widthL_step _ _ _ (by simp), if_neg (head_no h hno _), drop_cut a r h, ih _ (drop_short a h) (fun e => hno (List.mem_of_mem_drop e)) _ _ (by omega), rc_step a h]
    congr 1
    omega
theorem widthL_last (a : List UInt8) : (10 : UInt8) ∉ a → ∀ n m, n ≤ m → widthL a n m = max m (n + rc a) := by
  refine len_ind (P := fun a => (10 : UInt8) ∉ a → ∀ n m, n ≤ m → widthL a n m = max m (n + rc a)) (fun a ih hno n m hnm => ?_) a
  by_cases h : a = []
  · subst h
    rw [widthL_nil, rc_nil]; omega
  · have hd := head_no h hno []
    rw [List.append_nil] at hd
    rw [widthL_step _ _ _ h, if_neg hd, ih _ (drop_short a h) (fun e => hno (List.mem_of_mem_drop e)) _ _ (by omega), rc_step a h]
    omega

theorem split_width : ∀ (k : Nat) (s : ByteArray) (m : Nat), Lib.countB s ⟨#[10]⟩ = k → widthGo (Lib.splitB ⟨#[10]⟩ 0 k s) m = widthL s.data.toList 0 m
  | k, s, m, hk => by
    rcases Lib.indexB_cases s ⟨#[10]⟩ with hix | ⟨i, hix, hroom⟩
    · rw [Lib.splitB_miss _ _ _ _ hix]
      have hno : (10 : UInt8) ∉ s.data.toList := by
        intro hm
        obtain ⟨j, hj⟩ := List.getElem?_of_mem hm
        have h1 : Lib.indexByte s.data.toList 10 = -1 := by rw [← Lib.index_one]; exact hix
        exact Lib.indexByte_none h1 j hj
      rw [widthL_last _ hno _ _ (Nat.zero_le _)]
      show max m (Lib.runeCount s) = _
      rw [rc_eq, Nat.zero_add]
    · have hc := Lib.countB_hit s ⟨#[10]⟩ i (by decide) hix
      match k, hk with
      | 0, hk => omega
      | k + 1, hk =>
        rw [Lib.splitB_hit _ _ _ _ _ hix]
        have h1 : Lib.indexByte s.data.toList 10 = i := by rw [← Lib.index_one]; exact hix
        obtain ⟨hat, hbef⟩ := Lib.indexByte_some h1
        obtain ⟨hil, hie⟩ := List.getElem?_eq_some_iff.1 hat
        have hsp : s.data.toList = s.data.toList.take i ++ 10 :: s.data.toList.drop (i + 1) := by
          rw [← hie, ← List.drop_eq_getElem_cons hil, List.take_append_drop]
        have hno : (10 : UInt8) ∉ s.data.toList.take i := by
          intro hm
          obtain ⟨j, hj⟩ := List.getElem?_of_mem hm
          have hjl := (List.getElem?_eq_some_iff.1 hj).1
          rw [List.length_take] at hjl
          rw [List.getElem?_take_of_lt (by omega)] at hj
          exact hbef j (by omega) hj
        show widthGo (Lib.splitB ⟨#[10]⟩ 0 k (s.extract (i + 1) s.size)) (max m (Lib.runeCount (s.extract 0 (i + 0)))) = _
        rw [split_width k _ _ (by have : (⟨#[10]⟩ : ByteArray).size = 1 := rfl; rw [this] at hc; omega), ext_tail, rc_eq]
        conv => rhs; rw [hsp]
        rw [widthL_line _ _ hno _ _ (Nat.zero_le _), Nat.zero_add]
        have e0 : (s.extract 0 (i + 0)).data.toList = s.data.toList.take i := by
          rw [ByteArray.data_extract, Array.toList_extract]
          simp [List.extract]
        rw [e0]
/-- Both count the same. -/
theorem width_same (s : ByteArray) : widthP s = widthL s.data.toList 0 0 := split_width _ s 0 rfl
end Go.Proofs.YtljgpcaljedhpaaDoor
namespace Go.Proofs.YtljgpcaljedhpaaDoor

theorem nlB_iff (s : ByteArray) : nlB s = true ↔ (10 : UInt8) ∈ s.data.toList := by
  constructor
  · intro h
    unfold nlB Lib.contains at h
    rw [Lib.index_one] at h
    have h0 : 0 ≤ Lib.indexByte s.data.toList 10 := of_decide_eq_true h
    obtain ⟨k, hk⟩ : ∃ k : Nat, Lib.indexByte s.data.toList 10 = k := ⟨_, (Int.toNat_of_nonneg h0).symm⟩
    exact List.mem_of_getElem? (Lib.indexByte_some hk).1
  · intro h
    cases hn : nlB s
    · unfold nlB Lib.contains at hn
      rw [Lib.index_one] at hn
      have h0 : ¬ 0 ≤ Lib.indexByte s.data.toList 10 := of_decide_eq_false hn
      have h1 := Lib.indexByte_ge s.data.toList 10
      obtain ⟨j, hj⟩ := List.getElem?_of_mem h
      exact absurd hj (Lib.indexByte_none (by omega) j)
    · rfl
/-- How many line feeds. -/
def lfs (s : ByteArray) : Nat := Lib.countByte s.data.toList 10
theorem lfs_pos (s : ByteArray) : 0 < lfs s ↔ nlB s = true := by
  rw [nlB_iff]; unfold lfs Lib.countByte; exact List.count_pos_iff
def fw (s : ByteArray) : Nat := feedW s.data.toList 0
theorem col_flat (c : Int) (s : ByteArray) (hv : Lib.validD s.data.toList = true) (hn : nlB s = false) : colP c s = c + (fw s : Int) := by
  rw [feed_col c s hv, if_neg (fun h => by rw [(lfs_pos s).1 h] at hn; cases hn)]
  rfl
theorem col_any (c : Int) (s : ByteArray) (hv : Lib.validD s.data.toList = true) : colP c s = (if 0 < lfs s then 0 else c) + (fw s : Int) := feed_col c s hv
theorem spB_plain (k : Nat) : Plain (spB k).data.toList := plain_spaces k
theorem sp_cnt : ∀ k, cnt (Lib.repeatL [32] k) = k
  | 0 => rfl
  | k + 1 => by
    show cnt ([32] ++ Lib.repeatL [32] k) = _
    rw [cnt_append, sp_cnt k]
    show 1 + k = k + 1
    omega
theorem col_sp (c : Int) (k : Nat) : colP c (spB k) = c + k := by
  rw [col_plain (spB_plain k)]
  show c + (cnt (Lib.repeatL [32] k) : Int) = _
  rw [sp_cnt]
theorem col_nil (c : Int) : colP c ⟨#[]⟩ = c := by
  have := col_sp c 0
  rw [show (spB 0) = ⟨#[]⟩ from rfl] at this
  rw [this]; simp

/-- Does the stretch fit, as the reference asks it. -/
def rfitsP (w : Int) : List Op → Int → Int → Int → Bool
  | [], _, _, c => decide (c ≤ w)
  | x :: r, d, least, c =>
    if ¬ c ≤ w then false
    else if x.kind = 1 then (if d = least then true else if x.n = 3 then false else rfitsP w r d least c)
    else if x.kind = 5 then rfitsP w r d least (c + spacesP x c)
    else if x.kind = 0 then (if 0 < lfs x.text then false else rfitsP w r d least (c + (fw x.text : Int)))
    else if x.kind = 2 then (if 0 < lfs x.text then false else rfitsP w r (d + 1) least (c + (fw x.text : Int)))
    else if x.kind = 3 then (if 0 < lfs x.text then false else rfitsP w r (d - 1) (min least (d - 1)) (c + (fw x.text : Int)))
    else rfitsP w r d least c

theorem written0 {x : Op} (h : x.kind = 0) (c : Int) : writtenP x c = x.text := by unfold writtenP; rw [if_pos h]
theorem written2 {x : Op} (h : x.kind = 2) (c : Int) : writtenP x c = x.text := by unfold writtenP; rw [if_neg (by omega), if_pos h]
theorem written3 {x : Op} (h : x.kind = 3) (c : Int) : writtenP x c = x.text := by unfold writtenP; rw [if_neg (by omega), if_neg (by omega), if_pos h]
theorem written5 {x : Op} (h : x.kind = 5) (c : Int) : writtenP x c = spB (spacesP x c).toNat := by unfold writtenP; rw [if_neg (by omega), if_neg (by omega), if_neg (by omega), if_pos h]
theorem written14 {x : Op} (h : x.kind = 1 ∨ x.kind = 4) (c : Int) : writtenP x c = ⟨#[]⟩ := by unfold writtenP; rw [if_neg (by omega), if_neg (by omega), if_neg (by omega), if_neg (by omega)]

/-- The column behind an operation that breaks no line. -/
theorem rcol_written {x : Op} (h : Valid x) (c : Int) (h0 : 0 ≤ c) : colP c (writtenP x c) =
    if x.kind = 5 then c + spacesP x c else if x.kind = 0 ∨ x.kind = 2 ∨ x.kind = 3 then (if 0 < lfs x.text then 0 else c) + (fw x.text : Int) else c := by
  rcases kind_cases h with k | k | k | k | k | k
  · rw [if_neg (by omega), if_pos (by omega), written0 k, col_any c _ h.utf]
  · rw [if_neg (by omega), if_neg (by omega), written14 (.inl k), col_nil]
  · rw [if_neg (by omega), if_pos (by omega), written2 k, col_any c _ h.utf]
  · rw [if_neg (by omega), if_pos (by omega), written3 k, col_any c _ h.utf]
  · rw [if_neg (by omega), if_neg (by omega), written14 (.inr k), col_nil]
  · obtain ⟨n0, n1, m0, m1⟩ := h.tab k
    obtain ⟨s0, _⟩ := spaces_bd x c h0 n0 n1 m0 m1
    rw [if_pos k, written5 k, col_sp]
    omega

theorem flat_lfs {x : Op} (h : Valid x) (k : x.kind = 2 ∨ x.kind = 3) : ¬ 0 < lfs x.text := fun e => by
  have := h.one k
  rw [(lfs_pos _).1 e] at this
  cases this

theorem fits_over (w : Int) : ∀ (l : List Op) (d c : Int), (∀ x ∈ l, Valid x) → 0 ≤ c → ¬ c ≤ w → fitsP w l d c = false
  | [], d, c, _, _, h => by unfold fitsP; exact decide_eq_false h
  | x :: r, d, c, hv, h0, h => by
    have hx := hv x (by simp)
    have hr : ∀ y ∈ r, Valid y := fun y hy => hv y (by simp [hy])
    have hc := rcol_written hx c h0
    unfold fitsP
    rcases kind_cases hx with k | k | k | k | k | k
    · rw [if_neg (by omega), if_neg (by omega), if_neg (by omega), if_pos k]
      split
      · rfl
      · rename_i hn
        rw [if_neg (by omega), if_pos (by omega), if_neg (fun e => hn ((lfs_pos _).1 e))] at hc
        rw [hc]
        exact fits_over w r _ _ hr (by omega) (by omega)
    · rw [if_neg (by omega), if_neg (by omega)] at hc
      rw [if_pos k, hc]
      split
      · exact decide_eq_false h
      · split
        · rfl
        · exact fits_over w r _ _ hr h0 h
    · rw [if_neg (by omega), if_pos (by omega), if_neg (flat_lfs hx (.inl k))] at hc
      rw [if_neg (by omega), if_pos k, hc]
      exact fits_over w r _ _ hr (by omega) (by omega)
    · rw [if_neg (by omega), if_pos (by omega), if_neg (flat_lfs hx (.inr k))] at hc
      rw [if_neg (by omega), if_neg (by omega), if_pos k, hc]
      exact fits_over w r _ _ hr (by omega) (by omega)
    · rw [if_neg (by omega), if_neg (by omega)] at hc
      rw [if_neg (by omega), if_neg (by omega), if_neg (by omega), if_neg (by omega), hc]
      exact fits_over w r _ _ hr h0 h
    · obtain ⟨n0, n1, m0, m1⟩ := hx.tab k
      obtain ⟨s0, _⟩ := spaces_bd x c h0 n0 n1 m0 m1
      rw [if_pos k] at hc
      rw [if_neg (by omega), if_neg (by omega), if_neg (by omega), if_neg (by omega), hc]
      exact fits_over w r _ _ hr (by omega) (by omega)

theorem rfits_same (w : Int) : ∀ (l : List Op) (d least c : Int), (∀ x ∈ l, Valid x) → 0 ≤ c → least ≤ d → rfitsP w l d least c = fitsP w l (d - least) c
  | [], d, least, c, _, _, _ => rfl
  | x :: r, d, least, c, hv, h0, hd => by
    by_cases hcw : c ≤ w
    · have hx := hv x (by simp)
      have hr : ∀ y ∈ r, Valid y := fun y hy => hv y (by simp [hy])
      have hc := rcol_written hx c h0
      unfold rfitsP fitsP
      rw [if_neg (fun e => e hcw)]
      rcases kind_cases hx with k | k | k | k | k | k
      · simp only [k, Int.reduceEq, reduceIte, true_or] at hc ⊢
        by_cases hn : 0 < lfs x.text
        · rw [if_pos hn, if_pos ((lfs_pos _).1 hn)]
        · rw [if_neg hn] at hc
          rw [if_neg hn, if_neg (fun e => hn ((lfs_pos _).2 e)), hc]
          exact rfits_same w r _ _ _ hr (by omega) hd
      · simp only [k, Int.reduceEq, reduceIte, or_self] at hc ⊢
        rw [hc]
        by_cases hdl : d = least
        · rw [if_pos hdl, if_pos (by omega)]
          exact (decide_eq_true hcw).symm
        · have hdl' : ¬ d - least = 0 := by omega
          rw [if_neg hdl, if_neg hdl']
          split
          · rfl
          · exact rfits_same w r _ _ _ hr h0 hd
      · simp only [k, Int.reduceEq, reduceIte, true_or, or_true] at hc ⊢
        have hn := flat_lfs hx (.inl k)
        rw [if_neg hn] at hc
        rw [if_neg hn, hc, rfits_same w r _ _ _ hr (by omega) (by omega)]
        congr 1
        omega
      · simp only [k, Int.reduceEq, reduceIte, true_or, or_true] at hc ⊢
        have hn := flat_lfs hx (.inr k)
        rw [if_neg hn] at hc
        rw [if_neg hn, hc, rfits_same w r _ _ _ hr (by omega) (by omega)]
        congr 1
        omega
      · simp only [k, Int.reduceEq, reduceIte, or_self] at hc ⊢
        rw [hc]
        exact rfits_same w r _ _ _ hr h0 hd
      · obtain ⟨n0, n1, m0, m1⟩ := hx.tab k
        obtain ⟨s0, _⟩ := spaces_bd x c h0 n0 n1 m0 m1
        simp only [k, Int.reduceEq, reduceIte] at hc ⊢
        rw [hc]
        exact rfits_same w r _ _ _ hr (by omega) hd
    · rw [fits_over w _ _ _ hv h0 hcw]
      unfold rfitsP
      rw [if_pos hcw]

theorem whole_over (w : Int) : ∀ (l : List Op) (c : Int), (∀ x ∈ l, Valid x) → 0 ≤ c → ¬ c ≤ w → wholeP w l c = false
  | [], c, _, _, h => by unfold wholeP; exact decide_eq_false h
  | x :: r, c, hv, h0, h => by
    have hx := hv x (by simp)
    have hr : ∀ y ∈ r, Valid y := fun y hy => hv y (by simp [hy])
    have hc := rcol_written hx c h0
    unfold wholeP
    split
    · rfl
    split
    · rfl
    rename_i h1 h2
    have : c ≤ colP c (writtenP x c) := by
      rw [hc]
      split
      · rename_i k
        obtain ⟨n0, n1, m0, m1⟩ := hx.tab k
        have := spaces_bd x c h0 n0 n1 m0 m1
        omega
      · split
        · rename_i k
          rw [if_neg]
          · omega
          · intro e
            rcases k with k | k
            · exact h2 ⟨(lfs_pos _).1 e, k⟩
            · exact flat_lfs hx k e
        · omega
    exact whole_over w r _ hr (by omega) (by omega)

theorem whole_same (w : Int) : ∀ (l : List Op) (d c : Int), (∀ x ∈ l, Valid x) → 0 ≤ c → 0 ≤ d → checkGo l d = 0 → rfitsP w l d (-1) c = wholeP w l c
  | [], d, c, _, _, _, _ => rfl
  | x :: r, d, c, hv, h0, hd, hg => by
    by_cases hcw : c ≤ w
    · have hx := hv x (by simp)
      have hr : ∀ y ∈ r, Valid y := fun y hy => hv y (by simp [hy])
      have hc := rcol_written hx c h0
      rw [checkGo_cons] at hg
      have hg2 : 0 ≤ deeper x d ∧ checkGo r (deeper x d) = 0 := by
        split at hg
        · rename_i hne; exact absurd hg hne
        · split at hg
          · exact absurd hg (by decide)
          · rename_i _ h2; exact ⟨by omega, hg⟩
      obtain ⟨hd2, hg3⟩ := hg2
      unfold deeper at hd2 hg3
      unfold rfitsP wholeP
      rw [if_neg (fun e => e hcw)]
      rcases kind_cases hx with k | k | k | k | k | k
      · simp only [k, Int.reduceEq, reduceIte, true_or, false_and, and_true] at hc hg3 hd2 ⊢
        by_cases hn : 0 < lfs x.text
        · rw [if_pos hn, if_pos ((lfs_pos _).1 hn)]
        · rw [if_neg hn] at hc
          rw [if_neg hn, if_neg (fun e => hn ((lfs_pos _).2 e)), hc]
          exact whole_same w r _ _ hr (by omega) hd hg3
      · simp only [k, Int.reduceEq, reduceIte, or_self, true_and, and_false] at hc hg3 hd2 ⊢
        have hdl : ¬ d = -1 := by omega
        rw [hc, if_neg hdl]
        split
        · rfl
        · exact whole_same w r _ _ hr h0 hd hg3
      · simp only [k, Int.reduceEq, reduceIte, true_or, or_true, false_and, and_false] at hc hg3 hd2 ⊢
        have hn := flat_lfs hx (.inl k)
        rw [if_neg hn] at hc
        rw [if_neg hn, hc]
        exact whole_same w r _ _ hr (by omega) (by omega) hg3
      · simp only [k, Int.reduceEq, reduceIte, true_or, or_true, false_and, and_false] at hc hg3 hd2 ⊢
        have hn := flat_lfs hx (.inr k)
        rw [if_neg hn] at hc
        rw [if_neg hn, hc, Int.min_eq_left (by omega)]
        exact whole_same w r _ _ hr (by omega) hd2 hg3
      · simp only [k, Int.reduceEq, reduceIte, or_self, false_and, and_false] at hc hg3 hd2 ⊢
        rw [hc]
        exact whole_same w r _ _ hr h0 hd hg3
      · obtain ⟨n0, n1, m0, m1⟩ := hx.tab k
        obtain ⟨s0, _⟩ := spaces_bd x c h0 n0 n1 m0 m1
        simp only [k, Int.reduceEq, reduceIte, false_and, and_false] at hc hg3 hd2 ⊢
        rw [hc]
        exact whole_same w r _ _ hr (by omega) hd hg3
    · rw [whole_over w _ _ hv h0 hcw]
      unfold rfitsP
      rw [if_pos hcw]
end Go.Proofs.YtljgpcaljedhpaaDoor
