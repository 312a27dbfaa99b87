/- A block of words: how many of its lines are broken. -/
import Derived.Test.YtljgpcaljedhpaaDoorP5
namespace Go.Proofs.YtljgpcaljedhpaaDoor

def repB (c : UInt8) (k : Nat) : ByteArray := ⟨(Lib.repeatL [c] k).toArray⟩
theorem repB_list (c : UInt8) (k : Nat) : (repB c k).data.toList = List.replicate k c := by
  unfold repB
  show Lib.repeatL [c] k = _
  induction k with
  | zero => rfl
  | succ k ih => show [c] ++ Lib.repeatL [c] k = _; rw [ih]; rfl
theorem plain_rep (c : UInt8) (h1 : c.toNat < 128) (h2 : c ≠ 10) : ∀ k, Plain (List.replicate k c)
  | 0 => .nil
  | k + 1 => .one c _ h1 h2 (plain_rep c h1 h2 k)
theorem cnt_rep (c : UInt8) (h : c ≠ 169) (k : Nat) : cnt (List.replicate k c) = k := by
  unfold cnt
  rw [List.countP_replicate, if_pos (by simpa using h)]

/-- A word. -/
def wB (k : Nat) : ByteArray := repB 119 (1 + k % 5)
theorem wB_plain (k : Nat) : Plain (wB k).data.toList := by unfold wB; rw [repB_list]; exact plain_rep _ (by decide) (by decide) _
theorem wB_cnt (k : Nat) : cnt (wB k).data.toList = 1 + k % 5 := by unfold wB; rw [repB_list]; exact cnt_rep _ (by decide) _
theorem wB_len (k : Nat) : (wB k).data.toList.length = 1 + k % 5 := by unfold wB; rw [repB_list, List.length_replicate]

/-- The words behind the first one, and the end of the block. -/
def tailP (kind : Nat) : List Nat → List Op
  | [] => [closeO ⟨#[41]⟩]
  | k :: r => (if kind = 1 then [] else [textO ⟨#[32]⟩, newlineO (kind : Int)]) ++ textO (wB k) :: tailP kind r
def tailLen (kind : Nat) : List Nat → Nat
  | [] => 1
  | k :: r => (if kind = 1 then 0 else 1) + (1 + k % 5) + tailLen kind r
def blocksP (kind p k : Nat) (r : List Nat) : List Op := textO (repB 112 p) :: openO ⟨#[40]⟩ :: textO (wB k) :: tailP kind r

theorem plain_sp : Plain ([32] : List UInt8) := .one _ _ (by decide) (by decide) .nil
theorem plain_close : Plain ([41] : List UInt8) := .one _ _ (by decide) (by decide) .nil
theorem plain_open : Plain ([40] : List UInt8) := .one _ _ (by decide) (by decide) .nil
theorem col_sp (c : Int) : colP c ⟨#[32]⟩ = c + 1 := col_plain plain_sp
theorem col_close (c : Int) : colP c ⟨#[41]⟩ = c + 1 := col_plain plain_close
theorem col_open (c : Int) : colP c ⟨#[40]⟩ = c + 1 := col_plain plain_open
theorem col_wB (c : Int) (k : Nat) : colP c (wB k) = c + ((1 + k % 5 : Nat) : Int) := by rw [col_plain (wB_plain k), wB_cnt]
theorem col_none (c : Int) : colP c ⟨#[]⟩ = c := by rw [col_plain (s := ⟨#[]⟩) .nil]; exact Int.add_zero _

theorem fits_text (W : Int) (t : ByteArray) (ht : Plain t.data.toList) (r : List Op) (d c : Int) : fitsP W (textO t :: r) d c = fitsP W r d (colP c t) := by
  rw [fitsP]
  show (if (0 : Int) = 1 then _ else if (0 : Int) = 2 then _ else if (0 : Int) = 3 then _ else if (0 : Int) = 0 then _ else _) = _
  rw [if_neg (by decide), if_neg (by decide), if_neg (by decide), if_pos rfl]
  show (if nlB t = true then false else _) = _
  rw [if_neg (by rw [nlB_none ht.no10]; decide)]
  rfl
theorem fits_tail (W : Int) (kind : Nat) : ∀ (r : List Nat) (c : Int), fitsP W (tailP kind r) 1 c = if kind = 3 ∧ r ≠ [] then false else decide (c + (tailLen kind r : Int) ≤ W)
  | [], c => by
    rw [if_neg (fun e => e.2 rfl)]
    show fitsP W [closeO ⟨#[41]⟩] 1 c = _
    rw [fitsP]
    show (if (3 : Int) = 1 then _ else if (3 : Int) = 2 then _ else if (3 : Int) = 3 then fitsP W [] _ (colP c ⟨#[41]⟩) else _) = _
    rw [if_neg (by decide), if_neg (by decide), if_pos rfl, col_close]
    rfl
  | k :: r, c => by
    unfold tailP tailLen
    by_cases h1 : kind = 1
    · rw [if_pos h1, if_pos h1, List.nil_append, fits_text _ _ (wB_plain k), col_wB, fits_tail W kind r, if_neg (by omega), if_neg (by omega)]
      congr 1
      apply propext
      constructor <;> intro h <;> push_cast at * <;> omega
    · rw [if_neg h1, if_neg h1]
      show fitsP W (textO ⟨#[32]⟩ :: newlineO (kind : Int) :: textO (wB k) :: tailP kind r) 1 c = _
      rw [fits_text _ _ plain_sp, col_sp, fitsP]
      show (if (1 : Int) = 1 then (if (1 : Int) = 0 then _ else if (kind : Int) = 3 then false else fitsP W (textO (wB k) :: tailP kind r) 1 (colP (c + 1) ⟨#[]⟩)) else _) = _
      rw [if_pos rfl, if_neg (by decide)]
      by_cases h3 : kind = 3
      · rw [if_pos (by omega), if_pos ⟨h3, by simp⟩]
      · rw [if_neg (by omega), if_neg (fun e => h3 e.1), col_none, fits_text _ _ (wB_plain k), col_wB, fits_tail W kind r, if_neg (fun e => h3 e.1)]
        congr 1
        apply propext
        constructor <;> intro h <;> push_cast at * <;> omega

/-- Does each newline of the block break the line? -/
def brk (kind : Nat) (L Mi : Bool) : Bool := if kind = 3 then true else if kind = 0 then L else if kind = 2 then L && Mi else false

/-- The state within the block. -/
structure InB (L Mi : Bool) (s : St) : Prop where
  two : ∃ b0 b1, s.blocks = [b0, b1] ∧ b1.long = L ∧ b1.miser = Mi
theorem InB.top {L Mi : Bool} {s : St} (h : InB L Mi s) : (topOf s).long = L ∧ (topOf s).miser = Mi := by
  obtain ⟨b0, b1, e, h1, h2⟩ := h.two
  unfold topOf
  rw [e]
  exact ⟨h1, h2⟩

theorem text_step (W M : Int) (t : ByteArray) (ht : Plain t.data.toList) (r : List Op) (q : Int) (s : St) (hs : Low q s) (k : Nat) (hk : t.data.toList.length ≤ k) (hl : s.out.length + k ≤ 100000) :
    stepP W M s (textO t) r = some (putRaw s t) ∧ Low (q + k) (putRaw s t) ∧ (putRaw s t).out.length ≤ s.out.length + k ∧ (putRaw s t).out.count 10 = s.out.count 10 := by
  obtain ⟨h1, h2, h3⟩ := put_low hs ht k hk hl
  refine ⟨?_, h2, h3, ?_⟩
  · unfold stepP
    rw [if_pos (.inl rfl)]
    exact h1
  · show (s.out ++ t.data.toList).count 10 = _
    rw [List.count_append, List.count_eq_zero.2 ht.no10]
    rfl

theorem count_trim (l : List UInt8) : (trimR l).count 10 = l.count 10 := by
  have h : ∀ m : List UInt8, (m.dropWhile (· == 32)).count 10 = m.count 10 := fun m => by
    induction m with
    | nil => rfl
    | cons a m ih =>
      by_cases ha : a = 32
      · subst ha
        rw [List.dropWhile_cons_of_pos (by decide), ih, List.count_cons_of_ne (by decide)]
      · rw [List.dropWhile_cons_of_neg (by simpa using ha)]
  unfold trimR
  rw [List.count_reverse, h, List.count_reverse]

theorem nl_step (W M : Int) (kind : Nat) (L Mi : Bool) (hk : kind = 0 ∨ kind = 2 ∨ kind = 3) (r : List Op) (q : Int) (s : St) (hs : Low q s) (hb : InB L Mi s) (hl : s.out.length + 1 + q.toNat ≤ 100000) :
    ∃ s1, stepP W M s (newlineO (kind : Int)) r = some s1 ∧ Low q s1 ∧ InB L Mi s1 ∧ s1.out.length ≤ s.out.length + 1 + q.toNat ∧ s1.out.count 10 = s.out.count 10 + (if brk kind L Mi = true then 1 else 0) := by
  obtain ⟨tl, tm⟩ := hb.top
  obtain ⟨t0, t1, t2, t3, t4⟩ := hs.top
  have hbr : breaksP W s (topOf s) (newlineO (kind : Int)) r = brk kind L Mi := by
    unfold breaksP brk
    rw [tl, tm]
    show (if (kind : Int) = 3 then _ else if (kind : Int) = 0 then _ else if (kind : Int) = 2 then _ else _) = _
    rcases hk with rfl | rfl | rfl <;> rfl
  obtain ⟨b0, b1, hbl, l1, m1⟩ := hb.two
  have htop : topOf s = b1 := by unfold topOf; rw [hbl]; rfl
  unfold stepP
  rw [if_neg (by show ¬ ((1 : Int) = 0 ∨ (1 : Int) = 5); decide), if_neg (by show ¬ (1 : Int) = 2; decide), if_neg (by show ¬ (1 : Int) = 3; decide), if_neg (by show ¬ (1 : Int) = 4; decide), hbr]
  cases hB : brk kind L Mi with
  | true =>
    rw [if_pos rfl, if_pos rfl]
    obtain ⟨s1, e1, ho, ha, hbk⟩ := broken_low hs hl
    rw [e1]
    have hlen : s1.out.length ≤ s.out.length + 1 + q.toNat := by
      rw [ho]
      unfold brokenOut
      have := trimR_le s.out
      rw [List.length_append, List.length_append]
      have e := spB_size (topOf s).indent.toNat
      have e' : (spB (topOf s).indent.toNat).data.toList.length = (topOf s).indent.toNat := e
      simp only [List.length_cons, List.length_nil]
      omega
    refine ⟨_, rfl, ⟨by show 0 ≤ s1.at_; omega, by show s1.at_ ≤ q; omega, fun b hb' => ?_⟩, ⟨⟨b0, { topOf s with lines := s1.lines, slong := !fitsP W r 0 s1.at_ }, by show setTop s1.blocks _ = _; rw [hbk, hbl]; rfl, tl, tm⟩⟩, hlen, ?_⟩
    · rcases mem_setTop hb' with hb' | rfl
      · rw [hbk] at hb'; exact hs.bk b hb'
      · exact ⟨t0, t1, t2, t3, t4⟩
    · show s1.out.count 10 = _
      rw [ho]
      unfold brokenOut
      rw [List.count_append, List.count_append, count_trim, List.count_eq_zero.2 (plain_spB _).no10]
      rfl
  | false =>
    rw [if_neg (by decide), if_neg (by decide)]
    refine ⟨_, rfl, ⟨hs.c0, hs.c1, fun b hb' => ?_⟩, ⟨⟨b0, { topOf s with lines := s.lines, slong := !fitsP W r 0 s.at_ }, by show setTop s.blocks _ = _; rw [hbl]; rfl, tl, tm⟩⟩, by show s.out.length ≤ _; omega, rfl⟩
    rcases mem_setTop hb' with hb' | rfl
    · exact hs.bk b hb'
    · exact ⟨t0, t1, t2, t3, t4⟩

theorem inB_put {L Mi : Bool} {s : St} (h : InB L Mi s) (t : ByteArray) : InB L Mi (putRaw s t) := ⟨h.two⟩

set_option maxRecDepth 100000 in
theorem tail_steps (W M : Int) (kind : Nat) (L Mi : Bool) (hk : kind < 4) : ∀ (r : List Nat) (q : Nat) (s : St), Low q s → InB L Mi s → q + 6 * r.length ≤ 290 → s.out.length + 400 * (r.length + 1) ≤ 100000 →
    ∃ s', stepsP W M (tailP kind r) s = some s' ∧ s'.out.count 10 = s.out.count 10 + (if kind ≠ 1 ∧ brk kind L Mi = true then r.length else 0)
  | [], q, s, hs, hb, hq, hl => by
    simp only [List.length_nil] at hl
    obtain ⟨h1, _, _⟩ := put_low hs (t := ⟨#[41]⟩) plain_close 1 (Nat.le_refl _) (by omega)
    refine ⟨{ putRaw s ⟨#[41]⟩ with blocks := s.blocks.dropLast }, ?_, ?_⟩
    · show (stepP W M s (closeO ⟨#[41]⟩) []).bind (stepsP W M []) = _
      unfold stepP
      rw [if_neg (by show ¬ ((3 : Int) = 0 ∨ (3 : Int) = 5); decide), if_neg (by show ¬ (3 : Int) = 2; decide), if_pos (show (closeO ⟨#[41]⟩).kind = 3 from rfl)]
      show ((putP s ⟨#[41]⟩).bind _).bind _ = _
      rw [h1]
      rfl
    · show (s.out ++ [41]).count 10 = _
      rw [List.count_append]
      simp
  | k :: r, q, s, hs, hb, hq, hl => by
    rw [List.length_cons] at hq hl
    have hwl := wB_len k
    by_cases h1 : kind = 1
    · obtain ⟨e1, l1, o1, c1⟩ := text_step W M (wB k) (wB_plain k) (tailP kind r) q s hs 5 (by omega) (by omega)
      obtain ⟨s', e2, c2⟩ := tail_steps W M kind L Mi hk r (q + 5) (putRaw s (wB k)) l1 (inB_put hb _) (by omega) (by omega)
      refine ⟨s', ?_, ?_⟩
      · unfold tailP
        rw [if_pos h1, List.nil_append]
        show (stepP W M s (textO (wB k)) (tailP kind r)).bind (stepsP W M (tailP kind r)) = _
        rw [e1]
        exact e2
      · rw [c2, c1, if_neg (fun e => e.1 h1), if_neg (fun e => e.1 h1)]
    · obtain ⟨e1, l1, o1, c1⟩ := text_step W M ⟨#[32]⟩ plain_sp (newlineO (kind : Int) :: textO (wB k) :: tailP kind r) q s hs 1 (Nat.le_refl _) (by omega)
      obtain ⟨s2, e2, l2, b2, o2, c2⟩ := nl_step W M kind L Mi (by omega) (textO (wB k) :: tailP kind r) _ (putRaw s ⟨#[32]⟩) l1 (inB_put hb _) (by omega)
      obtain ⟨e3, l3, o3, c3⟩ := text_step W M (wB k) (wB_plain k) (tailP kind r) _ s2 l2 5 (by omega) (by omega)
      obtain ⟨s', e4, c4⟩ := tail_steps W M kind L Mi hk r (q + 1 + 5) (putRaw s2 (wB k)) l3 (inB_put b2 _) (by omega) (by omega)
      refine ⟨s', ?_, ?_⟩
      · unfold tailP
        rw [if_neg h1]
        show (stepP W M s (textO ⟨#[32]⟩) (newlineO (kind : Int) :: textO (wB k) :: tailP kind r)).bind (stepsP W M (newlineO (kind : Int) :: textO (wB k) :: tailP kind r)) = _
        rw [e1]
        show (stepP W M (putRaw s ⟨#[32]⟩) (newlineO (kind : Int)) (textO (wB k) :: tailP kind r)).bind (stepsP W M (textO (wB k) :: tailP kind r)) = _
        rw [e2]
        show (stepP W M s2 (textO (wB k)) (tailP kind r)).bind (stepsP W M (tailP kind r)) = _
        rw [e3]
        exact e4
      · rw [c4, c3, c2, c1, List.length_cons]
        by_cases hB : brk kind L Mi = true
        · simp [h1, hB]; omega
        · simp [hB]
theorem ok_p : ∀ p, p < 20 → checkOne (textO (repB 112 p)) = 0 := by decide +kernel
theorem ok_w5 : ∀ j, j < 5 → checkOne (textO (repB 119 (1 + j))) = 0 := by decide +kernel
theorem ok_w (k : Nat) : checkOne (textO (wB k)) = 0 := ok_w5 _ (Nat.mod_lt _ (by decide))
theorem ok_n (kind : Nat) (hk : kind < 4) : checkOne (newlineO (kind : Int)) = 0 := by
  have h : kind = 0 ∨ kind = 1 ∨ kind = 2 ∨ kind = 3 := by omega
  rcases h with rfl | rfl | rfl | rfl <;> decide

theorem textO_deeper (t : ByteArray) (d : Int) : deeper (textO t) d = d := deeper_same (by show (0 : Int) ≠ 2; decide) (by show (0 : Int) ≠ 3; decide)
theorem newlineO_deeper (n : Int) (d : Int) : deeper (newlineO n) d = d := deeper_same (by show (1 : Int) ≠ 2; decide) (by show (1 : Int) ≠ 3; decide)
theorem check_text {t : ByteArray} (h : checkOne (textO t) = 0) (r : List Op) (d : Int) (h0 : 0 ≤ d) (h1 : d ≤ 100) : checkGo (textO t :: r) d = checkGo r d := by
  rw [checkGo_step h _ _ (by rw [textO_deeper]; exact h0) (by rw [textO_deeper]; exact h1), textO_deeper]
theorem check_tail (kind : Nat) (hk : kind < 4) : ∀ r : List Nat, checkGo (tailP kind r) 1 = 0
  | [] => by show checkGo [closeO ⟨#[41]⟩] 1 = 0; decide
  | k :: r => by
    unfold tailP
    by_cases h1 : kind = 1
    · rw [if_pos h1, List.nil_append, check_text (ok_w k) _ _ (by decide) (by decide)]
      exact check_tail kind hk r
    · rw [if_neg h1]
      show checkGo (textO ⟨#[32]⟩ :: newlineO (kind : Int) :: textO (wB k) :: tailP kind r) 1 = 0
      rw [check_text (by decide) _ _ (by decide) (by decide), checkGo_step (ok_n kind hk) _ _ (by rw [newlineO_deeper]; decide) (by rw [newlineO_deeper]; decide), newlineO_deeper, check_text (ok_w k) _ _ (by decide) (by decide)]
      exact check_tail kind hk r
theorem tail_size (kind : Nat) : ∀ r : List Nat, (tailP kind r).length ≤ 1 + 3 * r.length ∧ bytesSum (tailP kind r) ≤ 1 + 6 * r.length
  | [] => ⟨Nat.le_refl _, Nat.le_refl _⟩
  | k :: r => by
    obtain ⟨h1, h2⟩ := tail_size kind r
    have hw : (wB k).size ≤ 5 := by
      have := wB_len k
      have e : (wB k).size = (wB k).data.toList.length := rfl
      omega
    unfold tailP
    by_cases hk : kind = 1
    · rw [if_pos hk, List.nil_append, List.length_cons, List.length_cons]
      refine ⟨by omega, ?_⟩
      show (wB k).size + bytesSum (tailP kind r) ≤ _
      omega
    · rw [if_neg hk]
      refine ⟨?_, ?_⟩
      · show (tailP kind r).length + 1 + 1 + 1 ≤ 1 + 3 * (r.length + 1)
        omega
      · show 1 + (0 + ((wB k).size + bytesSum (tailP kind r))) ≤ 1 + 6 * (r.length + 1)
        omega
theorem repB_size (c : UInt8) (k : Nat) : (repB c k).size = k := by
  have : (repB c k).data.toList.length = k := by rw [repB_list, List.length_replicate]
  exact this
theorem blocks_check (kind p k : Nat) (r : List Nat) (hk : kind < 4) (hp : p < 20) (hr : r.length ≤ 19) : checkP (blocksP kind p k r) = 0 ∧ (blocksP kind p k r).length ≤ 100 := by
  obtain ⟨h1, h2⟩ := tail_size kind r
  have hw : (wB k).size ≤ 5 := by
    have := wB_len k
    have e : (wB k).size = (wB k).data.toList.length := rfl
    omega
  have hps := repB_size 112 p
  have hlen : (blocksP kind p k r).length = (tailP kind r).length + 3 := rfl
  have hsum : bytesSum (blocksP kind p k r) = (repB 112 p).size + (1 + ((wB k).size + bytesSum (tailP kind r))) := rfl
  refine ⟨?_, by omega⟩
  unfold checkP
  rw [if_neg (by omega)]
  unfold blocksP
  rw [check_text (ok_p p hp) _ _ (by decide) (by decide), checkGo_step (x := openO ⟨#[40]⟩) (by decide) _ _ (by decide) (by decide)]
  rw [show deeper (openO ⟨#[40]⟩) 0 = 1 by decide, check_text (ok_w k) _ _ (by decide) (by decide)]
  exact check_tail kind hk r

theorem blocks_fits (kind p k : Nat) (r : List Nat) (W : Int) : fitsP W (blocksP kind p k r) 0 0 = if kind = 3 ∧ r ≠ [] then false else decide (((p + 1 + (1 + k % 5) + tailLen kind r : Nat) : Int) ≤ W) := by
  have hpl : Plain (repB 112 p).data.toList := by rw [repB_list]; exact plain_rep _ (by decide) (by decide) _
  have hcp : colP 0 (repB 112 p) = (p : Int) := by rw [col_plain hpl, repB_list, cnt_rep _ (by decide)]; omega
  unfold blocksP
  rw [fits_text _ _ hpl, hcp, fitsP]
  show (if (2 : Int) = 1 then _ else if (2 : Int) = 2 then fitsP W (textO (wB k) :: tailP kind r) (0 + 1) (colP (p : Int) ⟨#[40]⟩) else _) = _
  rw [if_neg (by decide), if_pos rfl, col_open, fits_text _ _ (wB_plain k), col_wB]
  show fitsP W (tailP kind r) 1 _ = _
  rw [fits_tail]
  have e : (p : Int) + 1 + ((1 + k % 5 : Nat) : Int) + (tailLen kind r : Int) = ((p + 1 + (1 + k % 5) + tailLen kind r : Nat) : Int) := by push_cast; omega
  rw [e]

/-- THE LAW: all newlines of the block break, or none does. -/
theorem blocks_law (kind p k : Nat) (r : List Nat) (W M : Int) (hk : kind < 4) (hp : p < 20) (hr : r.length ≤ 19) (hr1 : r ≠ []) (hW1 : 1 ≤ W) (hW2 : W ≤ 200) (hM1 : 0 ≤ M) (hM2 : M ≤ 200) :
    ∃ s, RenderOk (blocksP kind p k r) W M s ∧
      s.out.count 10 = (if kind ≠ 1 ∧ brk kind (decide (W < ((p + 1 + (1 + k % 5) + tailLen kind r : Nat) : Int))) (decide (W - (p : Int) - 1 ≤ M)) = true then r.length else 0) := by
  have hpl : Plain (repB 112 p).data.toList := by rw [repB_list]; exact plain_rep _ (by decide) (by decide) _
  have hcp : colP 0 (repB 112 p) = (p : Int) := by rw [col_plain hpl, repB_list, cnt_rep _ (by decide)]; omega
  have hpl2 : (repB 112 p).data.toList.length ≤ 19 := by rw [repB_list, List.length_replicate]; omega
  obtain ⟨hc, _⟩ := blocks_check kind p k r hk hp hr
  obtain ⟨l, hl⟩ : ∃ l, blocksP kind p k r = l := ⟨_, rfl⟩
  have hfit := blocks_fits kind p k r W
  rw [hl] at hc hfit
  obtain ⟨s0, hs0⟩ : ∃ s0 : St, ({ out := [], at_ := 0, lines := 0, blocks := [firstBk l W M] } : St) = s0 := ⟨_, rfl⟩
  have low0 : Low (0 : Nat) s0 := by
    rw [← hs0]
    refine ⟨Int.le_refl _, Int.le_refl _, fun b hb => ?_⟩
    obtain rfl := List.mem_singleton.1 hb
    exact ⟨Int.le_refl _, Int.le_refl _, Int.le_refl _, Int.le_refl _, rfl⟩
  have hout0 : s0.out = [] := by rw [← hs0]
  obtain ⟨e1, l1, o1, c1⟩ := text_step W M (repB 112 p) hpl (openO ⟨#[40]⟩ :: textO (wB k) :: tailP kind r) _ s0 low0 19 hpl2 (by rw [hout0]; decide)
  have hat : (putRaw s0 (repB 112 p)).at_ = (p : Int) := by rw [← hs0]; exact hcp
  have hblk : (putRaw s0 (repB 112 p)).blocks = [firstBk l W M] := by rw [← hs0]; rfl
  rw [hout0] at o1 c1
  obtain ⟨s1, hs1⟩ : ∃ s1, putRaw s0 (repB 112 p) = s1 := ⟨_, rfl⟩
  rw [hs1] at e1 l1 o1 c1 hat hblk
  simp only [List.length_nil] at o1
  obtain ⟨h2, l2, o2⟩ := put_low l1 (t := ⟨#[40]⟩) plain_open 1 (Nat.le_refl _) (by omega)
  have hat2 : (putRaw s1 ⟨#[40]⟩).at_ = (p : Int) + 1 := by show colP s1.at_ ⟨#[40]⟩ = _; rw [col_open, hat]
  have htop : topOf s1 = firstBk l W M := by unfold topOf; rw [hblk]; rfl
  obtain ⟨s2, hs2⟩ : ∃ s2 : St, ({ putRaw s1 ⟨#[40]⟩ with blocks := (putRaw s1 ⟨#[40]⟩).blocks ++ [{ start := (putRaw s1 ⟨#[40]⟩).at_, indent := (putRaw s1 ⟨#[40]⟩).at_, front := s1.at_, pre := ⟨#[]⟩, long := (topOf s1).slong, miser := decide (W - (putRaw s1 ⟨#[40]⟩).at_ ≤ M), each := false, lines := (putRaw s1 ⟨#[40]⟩).lines, slong := !fitsP W (textO (wB k) :: tailP kind r) 0 (putRaw s1 ⟨#[40]⟩).at_ }] } : St) = s2 := ⟨_, rfl⟩
  have e2 : stepP W M s1 (openO ⟨#[40]⟩) (textO (wB k) :: tailP kind r) = some s2 := by
    unfold stepP
    rw [if_neg (by show ¬ ((2 : Int) = 0 ∨ (2 : Int) = 5); decide), if_pos (show (openO ⟨#[40]⟩).kind = 2 from rfl)]
    show (putP s1 ⟨#[40]⟩).bind _ = _
    rw [h2, ← hs2]
    rfl
  have low2 : Low (20 : Nat) s2 := by
    rw [← hs2]
    have := l2.c0
    have := l2.c1
    refine ⟨l2.c0, by show (putRaw s1 ⟨#[40]⟩).at_ ≤ _; omega, fun b hb => ?_⟩
    have hb' : b ∈ (putRaw s1 ⟨#[40]⟩).blocks ++ [_] := hb
    rcases List.mem_append.1 hb' with hb' | hb'
    · obtain ⟨x1, x2, x3, x4, x5⟩ := l2.bk b hb'
      exact ⟨x1, by omega, x3, by omega, x5⟩
    · obtain rfl := List.mem_singleton.1 hb'
      exact ⟨l2.c0, by show (putRaw s1 ⟨#[40]⟩).at_ ≤ _; omega, l2.c0, by show (putRaw s1 ⟨#[40]⟩).at_ ≤ _; omega, rfl⟩
  have inb2 : InB (!fitsP W l 0 0) (decide (W - ((p : Int) + 1) ≤ M)) s2 := by
    rw [← hs2]
    refine ⟨⟨firstBk l W M, _, by show (putRaw s1 ⟨#[40]⟩).blocks ++ [_] = _; rw [show (putRaw s1 ⟨#[40]⟩).blocks = s1.blocks from rfl, hblk]; rfl, ?_, ?_⟩⟩
    · show (topOf s1).slong = _
      rw [htop]
      rfl
    · show decide (W - (putRaw s1 ⟨#[40]⟩).at_ ≤ M) = _
      rw [hat2]
  have hout2 : s2.out.length ≤ 20 ∧ s2.out.count 10 = 0 := by
    rw [← hs2]
    refine ⟨by show (putRaw s1 ⟨#[40]⟩).out.length ≤ 20; omega, ?_⟩
    show (s1.out ++ [40]).count 10 = 0
    rw [List.count_append, c1]
    decide
  have hwl := wB_len k
  obtain ⟨e3, l3, o3, c3⟩ := text_step W M (wB k) (wB_plain k) (tailP kind r) _ s2 low2 5 (by omega) (by omega)
  obtain ⟨s', e4, c4⟩ := tail_steps W M kind _ _ hk r (20 + 5) (putRaw s2 (wB k)) l3 (inB_put inb2 _) (by omega) (by omega)
  refine ⟨s', ⟨by rw [hl]; exact hc, hW1, hW2, hM1, hM2, ?_⟩, ?_⟩
  · have hs : stepsP W M (blocksP kind p k r) s0 = some s' := by
      show (stepP W M s0 (textO (repB 112 p)) (openO ⟨#[40]⟩ :: textO (wB k) :: tailP kind r)).bind (stepsP W M (openO ⟨#[40]⟩ :: textO (wB k) :: tailP kind r)) = _
      rw [e1]
      show (stepP W M s1 (openO ⟨#[40]⟩) (textO (wB k) :: tailP kind r)).bind (stepsP W M (textO (wB k) :: tailP kind r)) = _
      rw [e2]
      show (stepP W M s2 (textO (wB k)) (tailP kind r)).bind (stepsP W M (tailP kind r)) = _
      rw [e3]
      exact e4
    rw [hl] at hs ⊢
    rw [hs0]
    exact hs
  · rw [c4, c3, hout2.2, Nat.zero_add]
    have hmi : decide (W - ((p : Int) + 1) ≤ M) = decide (W - (p : Int) - 1 ≤ M) := by
      congr 1
      apply propext
      constructor <;> intro h <;> omega
    rw [hmi]
    by_cases h3 : kind = 3
    · subst h3
      rfl
    · have : (!decide (((p + 1 + (1 + k % 5) + tailLen kind r : Nat) : Int) ≤ W)) = decide (W < ((p + 1 + (1 + k % 5) + tailLen kind r : Nat) : Int)) := by
        by_cases h : ((p + 1 + (1 + k % 5) + tailLen kind r : Nat) : Int) ≤ W
        · rw [decide_eq_true h, decide_eq_false (by omega)]; rfl
        · rw [decide_eq_false h, decide_eq_true (by omega)]; rfl
      have hL : (!fitsP W l 0 0) = decide (W < ((p + 1 + (1 + k % 5) + tailLen kind r : Nat) : Int)) := by
        rw [hfit, if_neg (fun e => h3 e.1)]
        exact this
      rw [hL]
end Go.Proofs.YtljgpcaljedhpaaDoor
