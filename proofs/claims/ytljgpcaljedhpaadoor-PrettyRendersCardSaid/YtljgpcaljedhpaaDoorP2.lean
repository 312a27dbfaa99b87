/- What made's operations give: Check says nothing; Flat; Render without a break is Flat. -/
import Derived.Test.YtljgpcaljedhpaaDoorP1
import Derived.Test.YtljgpcaljedhpaaDoorX8
namespace Go.Proofs.YtljgpcaljedhpaaDoor

/-- A small operation. -/
structure Sm (x : Op) : Prop where
  ok : checkOne x = 0
  sz : x.text.size ≤ 5
  pl : Plain x.text.data.toList
  nl : x.kind = 1 → x.n ≠ 3
  tab : x.kind = 5 → 0 ≤ x.n ∧ x.n ≤ 6 ∧ 0 ≤ x.m ∧ x.m ≤ 3
  txt : x.kind = 1 ∨ x.kind = 4 ∨ x.kind = 5 → x.text = ⟨#[]⟩

theorem Sm.valid {x : Op} (h : Sm x) : Valid x := valid_of h.ok

theorem sp_bd (x : Op) (c : Int) (h0 : 0 ≤ c) (hn0 : 0 ≤ x.n) (hn : x.n ≤ 6) (hm0 : 0 ≤ x.m) (hm : x.m ≤ 3) : (spacesP x c).toNat ≤ 9 := by
  unfold spacesP
  split
  · split
    · omega
    · split
      · omega
      · rename_i h1 h2
        have := Int.emod_nonneg (c + x.n) h1
        omega
  · split
    · omega
    · split
      · omega
      · rename_i h1
        have := Int.emod_nonneg (c - x.n) h1
        omega

theorem written_plain {x : Op} (h : Sm x) (c : Int) : Plain (writtenP x c).data.toList := by
  unfold writtenP
  split
  · exact h.pl
  split
  · exact h.pl
  split
  · exact h.pl
  split
  · unfold spB; exact plain_spaces _
  · exact .nil
theorem written_le {x : Op} (h : Sm x) (c : Int) (hc : 0 ≤ c) : (writtenP x c).data.toList.length ≤ 9 := by
  have hs := h.sz
  have hs' : x.text.data.toList.length ≤ 5 := hs
  unfold writtenP
  split
  · omega
  split
  · omega
  split
  · omega
  split
  · rename_i h5
    obtain ⟨n0, n1, m0, m1⟩ := h.tab h5
    have := sp_bd x c hc n0 n1 m0 m1
    have e := spB_size (spacesP x c).toNat
    have e' : (spB (spacesP x c).toNat).data.toList.length = (spacesP x c).toNat := e
    omega
  · exact Nat.zero_le _

/-- The bytes that Flat makes, from a column on; and the column behind them. -/
def flatL : List Op → Int → List UInt8
  | [], _ => []
  | x :: r, c => (writtenP x c).data.toList ++ flatL r (c + (cnt (writtenP x c).data.toList : Int))
def colEnd : List Op → Int → Int
  | [], c => c
  | x :: r, c => colEnd r (c + (cnt (writtenP x c).data.toList : Int))

theorem flatL_plain : ∀ (l : List Op), (∀ x ∈ l, Sm x) → ∀ c, Plain (flatL l c)
  | [], _, _ => .nil
  | x :: r, h, c => (written_plain (h x (List.mem_cons_self ..)) c).append (flatL_plain r (fun y hy => h y (List.mem_cons_of_mem _ hy)) _)
theorem flatL_le : ∀ (l : List Op), (∀ x ∈ l, Sm x) → ∀ c, 0 ≤ c → (flatL l c).length ≤ 9 * l.length
  | [], _, _, _ => Nat.le_refl _
  | x :: r, h, c, hc => by
    have h1 := written_le (h x (List.mem_cons_self ..)) c hc
    have h2 := flatL_le r (fun y hy => h y (List.mem_cons_of_mem _ hy)) (c + (cnt (writtenP x c).data.toList : Int)) (by omega)
    unfold flatL
    rw [List.length_append, List.length_cons]
    omega
theorem colEnd_eq : ∀ (l : List Op) (c : Int), colEnd l c = c + (cnt (flatL l c) : Int)
  | [], c => by unfold colEnd flatL cnt; simp
  | x :: r, c => by unfold colEnd flatL; rw [colEnd_eq r, cnt_append]; omega

theorem col_written {x : Op} (h : Sm x) (c : Int) : colP c (writtenP x c) = c + (cnt (writtenP x c).data.toList : Int) := col_plain (written_plain h c)

theorem flatGo_eq : ∀ (l : List Op), (∀ x ∈ l, Sm x) → ∀ (out : List UInt8) (c : Int), 0 ≤ c → out.length + 9 * l.length ≤ 100000 → flatGo l out c = some (out ++ flatL l c)
  | [], _, out, _, _, _ => by unfold flatGo flatL; simp
  | x :: r, h, out, c, hc, hl => by
    have h1 := written_le (h x (List.mem_cons_self ..)) c hc
    rw [List.length_cons] at hl
    unfold flatGo flatL
    rw [if_neg (by rw [List.length_append]; omega), col_written (h x (List.mem_cons_self ..)), flatGo_eq r (fun y hy => h y (List.mem_cons_of_mem _ hy)) _ _ (by omega) (by rw [List.length_append]; omega), List.append_assoc]

theorem whole_true (W : Int) : ∀ (l : List Op), (∀ x ∈ l, Sm x) → ∀ c, colEnd l c ≤ W → wholeP W l c = true
  | [], _, c, h => by unfold wholeP; exact decide_eq_true h
  | x :: r, hs, c, h => by
    have hx := hs x (List.mem_cons_self ..)
    unfold wholeP
    rw [if_neg (fun e => hx.nl e.1 e.2), if_neg (fun e => by rw [nlB_none hx.pl.no10] at e; simp at e), col_written hx]
    exact whole_true W r (fun y hy => hs y (List.mem_cons_of_mem _ hy)) _ h
theorem fits_true (W : Int) : ∀ (l : List Op), (∀ x ∈ l, Sm x) → ∀ d c, colEnd l c ≤ W → fitsP W l d c = true
  | [], _, _, c, h => by unfold fitsP; exact decide_eq_true h
  | x :: r, hs, d, c, h => by
    have hx := hs x (List.mem_cons_self ..)
    have hr := fun y hy => hs y (List.mem_cons_of_mem x hy)
    have hcw : c ≤ W := by
      rw [colEnd_eq] at h
      omega
    unfold colEnd at h
    unfold fitsP
    rw [col_written hx]
    split
    · rename_i h1
      split
      · exact decide_eq_true hcw
      · rw [if_neg (hx.nl h1)]
        exact fits_true W r hr d _ h
    · split
      · exact fits_true W r hr _ _ h
      · split
        · exact fits_true W r hr _ _ h
        · split
          · rw [if_neg (by rw [nlB_none hx.pl.no10]; simp)]
            exact fits_true W r hr _ _ h
          · exact fits_true W r hr _ _ h

/-- No line is broken so far, and the open blocks want none. -/
structure Calm (nb : Bool) (s : St) : Prop where
  c0 : 0 ≤ s.at_
  ln : s.lines = 0
  bk : nb = true → ∀ b ∈ s.blocks, b.long = false ∧ b.slong = false ∧ b.lines = 0
theorem Calm.top {s : St} (h : Calm true s) : (topOf s).long = false ∧ (topOf s).slong = false ∧ (topOf s).lines = 0 := by
  by_cases hne : s.blocks = []
  · unfold topOf; rw [hne]; exact ⟨rfl, rfl, rfl⟩
  · exact h.bk rfl _ (topOf_mem hne)

theorem put_calm {nb : Bool} {s : St} {t : ByteArray} (h : Calm nb s) (ht : Plain t.data.toList) (hl : s.out.length + t.data.toList.length ≤ 100000) :
    putP s t = some { s with out := s.out ++ t.data.toList, at_ := s.at_ + (cnt t.data.toList : Int), lines := 0 } := by
  unfold putP
  have e : putRaw s t = { s with out := s.out ++ t.data.toList, at_ := s.at_ + (cnt t.data.toList : Int), lines := 0 } := by
    unfold putRaw
    rw [col_plain ht, h.ln]
    have : Lib.countByte t.data.toList 10 = 0 := List.count_eq_zero.2 ht.no10
    rw [this]
    rfl
  rw [e, if_pos (by show (s.out ++ t.data.toList).length ≤ 100000; rw [List.length_append]; exact hl)]

theorem mem_setTop {l : List Bk} {b c : Bk} (h : c ∈ setTop l b) : c ∈ l ∨ c = b := by
  unfold setTop at h
  rcases List.mem_append.1 h with hm | hm
  · exact .inl (mem_dropLast_ hm)
  · exact .inr (List.mem_singleton.1 hm)

theorem step_calm (nb : Bool) (W M : Int) (x : Op) (r : List Op) (hx : Sm x) (hr : ∀ y ∈ r, Sm y) (s : St) (hs : Calm nb s)
    (hW : nb = true → colEnd (x :: r) s.at_ ≤ W) (hN : nb = false → x.kind ≠ 1) (hl : s.out.length + 9 ≤ 100000) :
    ∃ s1, stepP W M s x r = some s1 ∧ Calm nb s1 ∧ s1.out = s.out ++ (writtenP x s.at_).data.toList ∧ s1.at_ = s.at_ + (cnt (writtenP x s.at_).data.toList : Int) := by
  have hw := written_plain hx s.at_
  have hwl := written_le hx s.at_ hs.c0
  have hput := put_calm hs hw (by omega)
  have c1 : 0 ≤ s.at_ + (cnt (writtenP x s.at_).data.toList : Int) := by have := hs.c0; omega
  have hcalm : Calm nb { s with out := s.out ++ (writtenP x s.at_).data.toList, at_ := s.at_ + (cnt (writtenP x s.at_).data.toList : Int), lines := 0 } := ⟨c1, rfl, hs.bk⟩
  have hfit : nb = true → fitsP W r 0 (s.at_ + (cnt (writtenP x s.at_).data.toList : Int)) = true := fun e => fits_true W r hr 0 _ (hW e)
  unfold stepP
  rcases kind_cases hx.valid with hk | hk | hk | hk | hk | hk
  · rw [if_pos (.inl hk)]
    exact ⟨_, hput, hcalm, rfl, rfl⟩
  · rw [if_neg (by omega), if_neg (by omega), if_neg (by omega), if_neg (by omega)]
    cases nb with
    | false => exact absurd hk (hN rfl)
    | true =>
      have ht := hs.top
      have hwe : writtenP x s.at_ = ⟨#[]⟩ := by unfold writtenP; rw [if_neg (by omega), if_neg (by omega), if_neg (by omega), if_neg (by omega)]
      have hb : breaksP W s (topOf s) x r = false := by
        unfold breaksP
        rw [if_neg (hx.nl hk), ht.1, ht.2.2, hs.ln]
        have hf := hfit rfl
        rw [hwe, show (cnt (⟨#[]⟩ : ByteArray).data.toList : Int) = 0 from rfl, Int.add_zero] at hf
        rw [hf]
        simp
      have hf := hfit rfl
      rw [hwe, show (cnt (⟨#[]⟩ : ByteArray).data.toList : Int) = 0 from rfl, Int.add_zero] at hf
      rw [hb, if_neg (by decide), hwe]
      refine ⟨{ s with blocks := setTop s.blocks { topOf s with lines := s.lines, slong := !fitsP W r 0 s.at_ } }, rfl, ⟨hs.c0, hs.ln, fun _ b hb => ?_⟩, (List.append_nil _).symm, ?_⟩
      · rcases mem_setTop hb with hb | rfl
        · exact hs.bk rfl b hb
        · exact ⟨ht.1, by show (!fitsP W r 0 s.at_) = false; rw [hf]; rfl, hs.ln⟩
      · show s.at_ = s.at_ + ((cnt [] : Nat) : Int)
        exact (Int.add_zero _).symm
  · rw [if_neg (by omega), if_pos hk]
    have hwe : writtenP x s.at_ = x.text := by unfold writtenP; rw [if_neg (by omega), if_pos hk]
    rw [hwe] at hput hcalm hfit ⊢
    rw [hput]
    refine ⟨_, rfl, ⟨hcalm.c0, rfl, fun e b hb => ?_⟩, rfl, rfl⟩
    have hb' : b ∈ s.blocks ++ [_] := hb
    rcases List.mem_append.1 hb' with hb' | hb'
    · exact hs.bk e b hb'
    · subst e
      obtain rfl := List.mem_singleton.1 hb'
      exact ⟨hs.top.2.1, by show (!fitsP W r 0 (s.at_ + (cnt x.text.data.toList : Int))) = false; rw [hfit rfl]; rfl, rfl⟩
  · rw [if_neg (by omega), if_neg (by omega), if_pos hk]
    have hwe : writtenP x s.at_ = x.text := by unfold writtenP; rw [if_neg (by omega), if_neg (by omega), if_pos hk]
    rw [hwe] at hput hcalm ⊢
    rw [hput]
    exact ⟨_, rfl, ⟨hcalm.c0, rfl, fun e b hb => hs.bk e b (mem_dropLast_ hb)⟩, rfl, rfl⟩
  · rw [if_neg (by omega), if_neg (by omega), if_neg (by omega), if_pos hk]
    have hwe : writtenP x s.at_ = ⟨#[]⟩ := by unfold writtenP; rw [if_neg (by omega), if_neg (by omega), if_neg (by omega), if_neg (by omega)]
    rw [hwe]
    split
    · exact ⟨s, rfl, hs, (List.append_nil _).symm, (Int.add_zero _).symm⟩
    · refine ⟨_, rfl, ⟨hs.c0, hs.ln, fun e b hb => ?_⟩, (List.append_nil _).symm, (Int.add_zero _).symm⟩
      rcases mem_setTop hb with hb | rfl
      · exact hs.bk e b hb
      · subst e; exact hs.top
  · rw [if_pos (.inr hk)]
    exact ⟨_, hput, hcalm, rfl, rfl⟩

theorem steps_calm (nb : Bool) (W M : Int) : ∀ (l : List Op), (∀ x ∈ l, Sm x) → ∀ (s : St), Calm nb s → (nb = true → colEnd l s.at_ ≤ W) → (nb = false → ∀ x ∈ l, x.kind ≠ 1) → s.out.length + 9 * l.length ≤ 100000 →
    ∃ s', stepsP W M l s = some s' ∧ s'.out = s.out ++ flatL l s.at_
  | [], _, s, _, _, _, _ => ⟨s, rfl, by unfold flatL; simp⟩
  | x :: r, h, s, hs, hW, hN, hl => by
    rw [List.length_cons] at hl
    have hx := h x (List.mem_cons_self ..)
    have hr := fun y hy => h y (List.mem_cons_of_mem x hy)
    obtain ⟨s1, e1, hs1, ho, ha⟩ := step_calm nb W M x r hx hr s hs hW (fun e => hN e x (List.mem_cons_self ..)) (by omega)
    have hwl := written_le hx s.at_ hs.c0
    obtain ⟨s', e2, ho2⟩ := steps_calm nb W M r hr s1 hs1 (fun e => by rw [ha]; exact hW e) (fun e y hy => hN e y (List.mem_cons_of_mem _ hy)) (by rw [ho, List.length_append]; omega)
    refine ⟨s', ?_, ?_⟩
    · unfold stepsP
      rw [e1]
      exact e2
    · rw [ho2, ho, ha, List.append_assoc]
      rfl

end Go.Proofs.YtljgpcaljedhpaaDoor
