/- What Render writes beside spaces and line feeds; no space stands ahead of a line feed. -/
import Derived.Test.YtljgpcaljedhpaaDoorP4
import Derived.Lib.Replace
namespace Go.Proofs.YtljgpcaljedhpaaDoor

/-- Without spaces and line feeds. -/
def strip (l : List UInt8) : List UInt8 := (l.filter (· != 32)).filter (· != 10)
theorem strip_append (a b : List UInt8) : strip (a ++ b) = strip a ++ strip b := by unfold strip; rw [List.filter_append, List.filter_append]

theorem replaceK_one (c : UInt8) : ∀ s : List UInt8, Lib.replaceK [c] [] (s.count c) s = s.filter (· != c)
  | [] => rfl
  | b :: l => by
    have ih := replaceK_one c l
    by_cases h : b = c
    · subst h
      have hix : Lib.index (b :: l) [b] = ((0 : Nat) : Int) := by rw [Lib.index]; simp [List.isPrefixOf]
      rw [List.count_cons_self, Lib.replaceK_hit [b] [] _ _ 0 hix]
      rw [List.filter_cons_of_neg (by simp)]
      simpa using ih
    · have hp : ([c] : List UInt8).isPrefixOf (b :: l) = false := by simp [List.isPrefixOf, Ne.symm h]
      have hix : Lib.index (b :: l) [c] = if Lib.index l [c] == -1 then -1 else Lib.index l [c] + 1 := by rw [Lib.index, hp]; simp
      rw [List.count_cons_of_ne h, List.filter_cons_of_pos (by simpa using h)]
      cases hk : l.count c with
      | zero =>
        rw [hk] at ih
        show b :: l = b :: l.filter (· != c)
        rw [← ih]
        rfl
      | succ k =>
        rw [hk] at ih
        obtain ⟨i, hi⟩ := Lib.index_of_count (s := l) (old := [c]) (by rw [Lib.count_one, hk]; omega)
        have hix' : Lib.index (b :: l) [c] = ((i + 1 : Nat) : Int) := by
          rw [hix, hi, if_neg (by simp)]
          omega
        rw [Lib.replaceK_hit [c] [] k _ (i + 1) hix']
        rw [Lib.replaceK_hit [c] [] k _ i hi] at ih
        rw [← ih]
        rfl
theorem replaceAll_one (c : UInt8) (s : List UInt8) : Lib.replaceAll s [c] [] = s.filter (· != c) := by
  unfold Lib.replaceAll Lib.replace
  rw [if_neg (by simp)]
  unfold Lib.replaceNum
  rw [if_pos (.inl (by decide)), Lib.count_one]
  exact replaceK_one c s

/-- No space stands ahead of a line feed. -/
def nsn : List UInt8 → Bool
  | a :: b :: r => !(a == 32 && b == 10) && nsn (b :: r)
  | _ => true
theorem nsn_cons {a b : UInt8} {r : List UInt8} (h : nsn (a :: b :: r) = true) : ¬ (a = 32 ∧ b = 10) ∧ nsn (b :: r) = true := by
  unfold nsn at h
  simp at h
  exact ⟨fun e => h.1.elim (fun k => k e.1) (fun k => k e.2), h.2⟩
theorem nsn_mk {a b : UInt8} {r : List UInt8} (h : ¬ (a = 32 ∧ b = 10)) (h2 : nsn (b :: r) = true) : nsn (a :: b :: r) = true := by
  have hc : (a == 32 && b == 10) = false := by
    cases hc : (a == 32 && b == 10) with
    | false => rfl
    | true => simp at hc; exact absurd hc h
  unfold nsn
  rw [h2, hc]
  rfl
theorem nsn_append : ∀ (l t : List UInt8), nsn l = true → nsn t = true → ¬ (l.getLast? = some 32 ∧ t.head? = some 10) → nsn (l ++ t) = true
  | [], _, _, h, _ => h
  | [a], [], _, _, _ => rfl
  | [a], b :: t, _, h, hn => nsn_mk (fun e => hn ⟨by rw [e.1]; rfl, by rw [e.2]; rfl⟩) h
  | a :: b :: r, t, h, ht, hn => by
    obtain ⟨h1, h2⟩ := nsn_cons h
    exact nsn_mk h1 (nsn_append (b :: r) t h2 ht (by rw [List.getLast?_cons_cons] at hn; exact hn))
theorem nsn_left : ∀ (l t : List UInt8), nsn (l ++ t) = true → nsn l = true
  | [], _, _ => rfl
  | [a], _, _ => rfl
  | a :: b :: r, t, h => by
    obtain ⟨h1, h2⟩ := nsn_cons (show nsn (a :: b :: (r ++ t)) = true from h)
    exact nsn_mk h1 (nsn_left (b :: r) t h2)
theorem nsn_no10 : ∀ (l : List UInt8), (10 : UInt8) ∉ l → nsn l = true
  | [], _ => rfl
  | [a], _ => rfl
  | a :: b :: r, h => nsn_mk (fun e => h (by rw [e.2]; simp)) (nsn_no10 (b :: r) fun hm => h (List.mem_cons_of_mem _ hm))

theorem trim_form (l : List UInt8) : (∃ t, l = trimR l ++ t ∧ strip t = []) ∧ (trimR l).getLast? ≠ some 32 := by
  unfold trimR
  constructor
  · refine ⟨(l.reverse.takeWhile (· == 32)).reverse, ?_, ?_⟩
    · rw [← List.reverse_append, List.takeWhile_append_dropWhile, List.reverse_reverse]
    · have : ∀ m : List UInt8, strip (m.takeWhile (· == 32)).reverse = [] := fun m => by
        unfold strip
        rw [List.filter_reverse]
        have : (m.takeWhile (· == 32)).filter (· != 32) = [] := by
          rw [List.filter_eq_nil_iff]
          intro a ha
          have := List.all_takeWhile (l := m) (p := fun b => b == (32 : UInt8))
          have := List.all_eq_true.1 this a ha
          simpa using this
        rw [this]
        rfl
      exact this _
  · rw [List.getLast?_reverse]
    intro h
    have := List.head?_dropWhile_not (fun b => b == (32 : UInt8)) l.reverse
    rw [h] at this
    simp at this

theorem strip_trim (l : List UInt8) : strip (trimR l) = strip l := by
  obtain ⟨⟨t, e, ht⟩, _⟩ := trim_form l
  conv => rhs; rw [e, strip_append, ht, List.append_nil]
theorem strip_spB (k : Nat) : strip (spB k).data.toList = [] := by
  unfold spB
  show strip (Lib.repeatL [32] k) = []
  induction k with
  | zero => rfl
  | succ k ih => show strip ([32] ++ Lib.repeatL [32] k) = []; rw [strip_append, ih]; rfl

def stripX (x : Op) : List UInt8 := if x.kind = 0 ∨ x.kind = 2 ∨ x.kind = 3 then strip x.text.data.toList else []
def stripS : List Op → List UInt8
  | [] => []
  | x :: r => stripX x ++ stripS r
theorem strip_written (x : Op) (c : Int) : strip (writtenP x c).data.toList = stripX x := by
  by_cases h0 : x.kind = 0
  · rw [show writtenP x c = x.text by unfold writtenP; rw [if_pos h0], show stripX x = strip x.text.data.toList by unfold stripX; rw [if_pos (.inl h0)]]
  by_cases h2 : x.kind = 2
  · rw [show writtenP x c = x.text by unfold writtenP; rw [if_neg h0, if_pos h2], show stripX x = strip x.text.data.toList by unfold stripX; rw [if_pos (.inr (.inl h2))]]
  by_cases h3 : x.kind = 3
  · rw [show writtenP x c = x.text by unfold writtenP; rw [if_neg h0, if_neg h2, if_pos h3], show stripX x = strip x.text.data.toList by unfold stripX; rw [if_pos (.inr (.inr h3))]]
  rw [show stripX x = [] by unfold stripX; rw [if_neg (by omega)]]
  unfold writtenP
  rw [if_neg h0, if_neg h2, if_neg h3]
  split
  · exact strip_spB _
  · rfl
theorem strip_flatL : ∀ (l : List Op) (c : Int), strip (flatL l c) = stripS l
  | [], _ => rfl
  | x :: r, c => by
    unfold flatL stripS
    rw [strip_append, strip_written, strip_flatL r]

/-- What a step writes. -/
theorem step_out (W M : Int) (x : Op) (r : List Op) (hx : Sm x) (p : Int) (s s1 : St) (hs : Low p s) (hl : s.out.length + 1 + p.toNat ≤ 100000) (h : stepP W M s x r = some s1) :
    s1.out = s.out ++ (writtenP x s.at_).data.toList ∨ (x.kind = 1 ∧ s1.out = brokenOut (topOf s) s) := by
  unfold stepP at h
  rcases kind_cases hx.valid with hk | hk | hk | hk | hk | hk
  · rw [if_pos (.inl hk)] at h
    obtain ⟨e, _⟩ := put_some h
    subst e
    exact .inl rfl
  · rw [if_neg (by omega), if_neg (by omega), if_neg (by omega), if_neg (by omega)] at h
    have hwe : writtenP x s.at_ = ⟨#[]⟩ := by unfold writtenP; rw [if_neg (by omega), if_neg (by omega), if_neg (by omega), if_neg (by omega)]
    obtain ⟨s2, h1, h2⟩ := Option.bind_eq_some_iff.1 h
    obtain rfl := Option.some.inj h2
    split at h1
    · obtain ⟨s3, e1, ho, _, _⟩ := broken_low hs hl
      obtain rfl := Option.some.inj (h1.symm.trans e1)
      exact .inr ⟨hk, ho⟩
    · obtain rfl := Option.some.inj h1
      rw [hwe]
      exact .inl (List.append_nil _).symm
  · rw [if_neg (by omega), if_pos hk] at h
    have hwe : writtenP x s.at_ = x.text := by unfold writtenP; rw [if_neg (by omega), if_pos hk]
    obtain ⟨s2, h1, h2⟩ := Option.bind_eq_some_iff.1 h
    obtain ⟨e, _⟩ := put_some h1
    subst e
    obtain rfl := Option.some.inj h2
    rw [hwe]
    exact .inl rfl
  · rw [if_neg (by omega), if_neg (by omega), if_pos hk] at h
    have hwe : writtenP x s.at_ = x.text := by unfold writtenP; rw [if_neg (by omega), if_neg (by omega), if_pos hk]
    obtain ⟨s2, h1, h2⟩ := Option.bind_eq_some_iff.1 h
    obtain ⟨e, _⟩ := put_some h1
    subst e
    obtain rfl := Option.some.inj h2
    rw [hwe]
    exact .inl rfl
  · rw [if_neg (by omega), if_neg (by omega), if_neg (by omega), if_pos hk] at h
    have hwe : writtenP x s.at_ = ⟨#[]⟩ := by unfold writtenP; rw [if_neg (by omega), if_neg (by omega), if_neg (by omega), if_neg (by omega)]
    rw [hwe]
    split at h
    · obtain rfl := Option.some.inj h
      exact .inl (List.append_nil _).symm
    · obtain rfl := Option.some.inj h
      exact .inl (List.append_nil _).symm
  · rw [if_pos (.inr hk)] at h
    obtain ⟨e, _⟩ := put_some h
    subst e
    exact .inl rfl

theorem broken_strip (top : Bk) (s : St) : strip (brokenOut top s) = strip s.out := by
  unfold brokenOut
  rw [strip_append, strip_append, strip_trim, strip_spB]
  show strip s.out ++ [] ++ [] = _
  simp
theorem broken_nsn (top : Bk) (s : St) (h : nsn s.out = true) : nsn (brokenOut top s) = true := by
  obtain ⟨⟨t, e, _⟩, hl⟩ := trim_form s.out
  unfold brokenOut
  rw [List.append_assoc]
  refine nsn_append _ _ (nsn_left _ t (by rw [← e]; exact h)) ?_ (fun hh => hl hh.1)
  have hp := plain_spB top.indent.toNat
  refine nsn_append [10] _ rfl (nsn_no10 _ hp.no10) (fun hh => ?_)
  exact absurd hh.1 (by decide)

theorem stripX_nl {x : Op} (h : x.kind = 1) : stripX x = [] := by unfold stripX; rw [if_neg (by omega)]

theorem steps_words (W M : Int) : ∀ (l : List Op), (∀ x ∈ l, Sf x) → ∀ (q : Nat) (p : Int) (s : St), Low p s → nsn s.out = true → p + wtSum l ≤ q → s.out.length + wtSum l + nls l * (1 + q) + (1 + q) ≤ 100000 →
    ∃ s', stepsP W M l s = some s' ∧ strip s'.out = strip s.out ++ stripS l ∧ nsn s'.out = true ∧ s'.out.length ≤ 100000
  | [], _, _, _, s, _, hn, _, hl => ⟨s, rfl, (List.append_nil _).symm, hn, by omega⟩
  | x :: r, h, q, p, s, hs, hn, hp, hl => by
    obtain ⟨hx, hfl⟩ := h x (List.mem_cons_self ..)
    unfold wtSum at hp hl
    unfold nls at hl
    have hc0 := hs.c0
    have hc1 := hs.c1
    rw [Nat.add_mul] at hl
    obtain ⟨s1, e1, hlow, hlen⟩ := step_low W M x r hx hfl p s hs (by
      split
      · rename_i hk
        rw [if_pos hk, Nat.one_mul] at hl
        omega
      · omega)
    have hout := step_out W M x r hx p s s1 hs (by omega) e1
    have hboth : strip s1.out = strip s.out ++ stripX x ∧ nsn s1.out = true := by
      rcases hout with ho | ⟨hk, ho⟩
      · rw [ho]
        have hw := written_plain hx s.at_
        refine ⟨by rw [strip_append, strip_written], nsn_append _ _ hn (nsn_no10 _ hw.no10) (fun hh => ?_)⟩
        exact hw.no10 (List.mem_of_mem_head? hh.2)
      · rw [ho]
        exact ⟨by rw [broken_strip, stripX_nl hk, List.append_nil], broken_nsn _ _ hn⟩
    obtain ⟨s', e2, ho2, hn2, hl2⟩ := steps_words W M r (fun y hy => h y (List.mem_cons_of_mem _ hy)) q (p + wt x) s1 hlow hboth.2 (by omega) (by
      split at hlen
      · rename_i hk
        rw [if_pos hk, Nat.one_mul] at hl
        omega
      · omega)
    refine ⟨s', ?_, by rw [ho2, hboth.1, List.append_assoc]; rfl, hn2, hl2⟩
    unfold stepsP
    rw [e1]
    exact e2
theorem index_nsn : ∀ (l : List UInt8), nsn l = true → Lib.index l [32, 10] = -1
  | [], _ => rfl
  | [a], _ => by rw [Lib.index]; simp [List.isPrefixOf, Lib.index]
  | a :: b :: r, h => by
    obtain ⟨h1, h2⟩ := nsn_cons h
    have ih := index_nsn (b :: r) h2
    have hp : ([32, 10] : List UInt8).isPrefixOf (a :: b :: r) = false := by
      cases hc : ([32, 10] : List UInt8).isPrefixOf (a :: b :: r) with
      | false => rfl
      | true =>
        exfalso
        simp [List.isPrefixOf] at hc
        exact h1 ⟨hc.1.symm, hc.2.symm⟩
    rw [Lib.index, hp, ih]
    rfl
theorem nsn_contains {l : List UInt8} (h : nsn l = true) : Lib.contains l [32, 10] = false := by
  unfold Lib.contains
  rw [index_nsn l h]
  rfl

/-- THE LAW: Render's text is Flat's but for spaces and line feeds; no space stands ahead of a line feed. -/
theorem words_law (l : List (Nat × Nat)) (hl : l.length ≤ 60) (W M : Int) (hW1 : 1 ≤ W) (hW2 : W ≤ 200) (hM1 : 0 ≤ M) (hM2 : M ≤ 200) :
    flatP (madeGo l 0) = (⟨(flatL (madeGo l 0) 0).toArray⟩, 0) ∧ (flatL (madeGo l 0) 0).length ≤ 100000 ∧
      ∃ s, RenderOk (madeGo l 0) W M s ∧ strip s.out = strip (flatL (madeGo l 0) 0) ∧ nsn s.out = true ∧ s.out.length ≤ 100000 := by
  have m := made_made l 0
  have hsm : ∀ x ∈ madeGo l 0, Sm x := fun x hx => (m.sf x hx).1
  have hlen := m.len
  have hwt := m.wt
  have hnl := m.nl
  have hc := checkP_sm hsm (by omega) (m.chk (by omega))
  have hfl := flatL_le _ hsm 0 (Int.le_refl _)
  refine ⟨flat_sm _ hsm (by omega) hc, by omega, ?_⟩
  obtain ⟨s, e, h1, h2, h3⟩ := steps_words W M (madeGo l 0) m.sf 600 0 { out := [], at_ := 0, lines := 0, blocks := [firstBk (madeGo l 0) W M] } ⟨Int.le_refl _, Int.le_refl _, fun b hb => by
    obtain rfl := List.mem_singleton.1 hb
    exact ⟨Int.le_refl _, Int.le_refl _, Int.le_refl _, Int.le_refl _, rfl⟩⟩ rfl (by omega) (by
      have : nls (madeGo l 0) * (1 + 600) ≤ 100 * (1 + 600) := Nat.mul_le_mul_right _ (by omega)
      show 0 + _ + _ + _ ≤ _
      omega)
  exact ⟨s, ⟨hc, hW1, hW2, hM1, hM2, e⟩, by rw [h1, strip_flatL]; rfl, h2, h3⟩
end Go.Proofs.YtljgpcaljedhpaaDoor
