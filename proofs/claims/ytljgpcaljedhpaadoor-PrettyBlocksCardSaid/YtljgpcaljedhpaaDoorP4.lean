/- made's operations are small; Check says nothing of them. -/
import Derived.Test.YtljgpcaljedhpaaDoorP3
namespace Go.Proofs.YtljgpcaljedhpaaDoor

theorem wtSum_append (a b : List Op) : wtSum (a ++ b) = wtSum a + wtSum b := by
  induction a with
  | nil => show wtSum b = 0 + wtSum b; omega
  | cons x a ih => show wt x + wtSum (a ++ b) = wt x + wtSum a + wtSum b; omega
theorem nls_append (a b : List Op) : nls (a ++ b) = nls a + nls b := by
  induction a with
  | nil => show nls b = 0 + nls b; omega
  | cons x a ih => show _ + nls (a ++ b) = _ + nls a + nls b; omega

/-- Small, and no prefix. -/
def Sf (x : Op) : Prop := Sm x ∧ (x.kind = 2 → x.flag = false)

theorem sf_text6 (k : Nat) (hk : k < 6) : Sf (textO (text6 k)) := by
  have h : k = 0 ∨ k = 1 ∨ k = 2 ∨ k = 3 ∨ k = 4 ∨ k = 5 := by omega
  rcases h with rfl | rfl | rfl | rfl | rfl | rfl
  · exact ⟨⟨by decide, by decide, .one _ _ (by decide) (by decide) .nil, by decide, by decide, by decide⟩, by decide⟩
  · exact ⟨⟨by decide, by decide, .one _ _ (by decide) (by decide) (.one _ _ (by decide) (by decide) .nil), by decide, by decide, by decide⟩, by decide⟩
  · exact ⟨⟨by decide, by decide, .one _ _ (by decide) (by decide) (.one _ _ (by decide) (by decide) (.one _ _ (by decide) (by decide) .nil)), by decide, by decide, by decide⟩, by decide⟩
  · exact ⟨⟨by decide, by decide, .two _ .nil, by decide, by decide, by decide⟩, by decide⟩
  · exact ⟨⟨by decide, by decide, .one _ _ (by decide) (by decide) .nil, by decide, by decide, by decide⟩, by decide⟩
  · exact ⟨⟨by decide, by decide, .one _ _ (by decide) (by decide) (.one _ _ (by decide) (by decide) (.one _ _ (by decide) (by decide) (.one _ _ (by decide) (by decide) (.one _ _ (by decide) (by decide) .nil)))), by decide, by decide, by decide⟩, by decide⟩
theorem sf_space : Sf (textO ⟨#[32]⟩) := sf_text6 4 (by decide)
theorem sf_newline (k : Nat) (hk : k < 3) : Sf (newlineO (k : Int)) := by
  have h : k = 0 ∨ k = 1 ∨ k = 2 := by omega
  rcases h with rfl | rfl | rfl <;> exact ⟨⟨by decide, by decide, .nil, by decide, by decide, fun _ => rfl⟩, by decide⟩
theorem sf_open (k : Nat) (hk : k < 3) : Sf (openO (openT k)) := by
  have h : k = 0 ∨ k = 1 ∨ k = 2 := by omega
  rcases h with rfl | rfl | rfl
  · exact ⟨⟨by decide, by decide, .one _ _ (by decide) (by decide) .nil, by decide, by decide, by decide⟩, by decide⟩
  · exact ⟨⟨by decide, by decide, .nil, by decide, by decide, by decide⟩, by decide⟩
  · exact ⟨⟨by decide, by decide, .one _ _ (by decide) (by decide) (.one _ _ (by decide) (by decide) .nil), by decide, by decide, by decide⟩, by decide⟩
theorem sf_close (k : Nat) (hk : k < 3) : Sf (closeO (closeT k)) := by
  have h : k = 0 ∨ k = 1 ∨ k = 2 := by omega
  rcases h with rfl | rfl | rfl
  · exact ⟨⟨by decide, by decide, .one _ _ (by decide) (by decide) .nil, by decide, by decide, by decide⟩, by decide⟩
  · exact ⟨⟨by decide, by decide, .nil, by decide, by decide, by decide⟩, by decide⟩
  · exact ⟨⟨by decide, by decide, .one _ _ (by decide) (by decide) (.one _ _ (by decide) (by decide) .nil), by decide, by decide, by decide⟩, by decide⟩
theorem sf_indent (n : Int) (f : Bool) (h0 : -100 ≤ n) (h1 : n ≤ 100) : Sf (indentO n f) := by
  refine ⟨⟨?_, by show (0 : Nat) ≤ 5; decide, .nil, fun h => absurd h (by decide : ¬ (4 : Int) = 1), fun h => absurd h (by decide : ¬ (4 : Int) = 5), fun _ => rfl⟩, fun h => absurd h (by decide : ¬ (4 : Int) = 2)⟩
  unfold checkOne indentO
  simp only
  rw [if_neg (by omega), if_neg (by decide), if_neg (by omega)]
theorem sf_tab (n m : Int) (f : Bool) (h0 : 0 ≤ n) (h1 : n ≤ 6) (h2 : 0 ≤ m) (h3 : m ≤ 3) : Sf (tabO n m f) := by
  refine ⟨⟨?_, by show (0 : Nat) ≤ 5; decide, .nil, fun h => absurd h (by decide : ¬ (5 : Int) = 1), fun _ => ⟨h0, h1, h2, h3⟩, fun _ => rfl⟩, fun h => absurd h (by decide : ¬ (5 : Int) = 2)⟩
  unfold checkOne tabO
  simp only
  rw [if_neg (by omega), if_neg (by decide), if_neg (by omega)]

theorem checkGo_step {x : Op} (hx : checkOne x = 0) (r : List Op) (d : Int) (h0 : 0 ≤ deeper x d) (h1 : deeper x d ≤ 100) : checkGo (x :: r) d = checkGo r (deeper x d) := by
  rw [checkGo_cons, if_neg (by rw [hx]; decide), if_neg (by omega)]
theorem checkGo_closes : ∀ (d : Nat), d ≤ 100 → checkGo (List.replicate d (closeO ⟨#[41]⟩)) d = 0
  | 0, _ => rfl
  | d + 1, h => by
    rw [List.replicate_succ]
    have hd : deeper (closeO ⟨#[41]⟩) ((d + 1 : Nat) : Int) = d := by unfold deeper closeO; simp
    rw [checkGo_step (by decide) _ _ (by rw [hd]; omega) (by rw [hd]; omega), hd]
    exact checkGo_closes d (by omega)

/-- What one pair of bytes makes. -/
structure One (a b d : Nat) : Prop where
  sf : ∀ x ∈ (madeOne a b d).1, Sf x
  len : (madeOne a b d).1.length ≤ 2
  wt : wtSum (madeOne a b d).1 + (madeOne a b d).2 ≤ 9 + d
  nl : nls (madeOne a b d).1 ≤ 1
  grow : (madeOne a b d).1.length + (madeOne a b d).2 ≤ 2 + d
  dep : (madeOne a b d).2 ≤ d + 1
  chk : d ≤ 99 → ∀ r, checkGo ((madeOne a b d).1 ++ r) d = checkGo r ((madeOne a b d).2 : Nat)

theorem deeper_same {x : Op} {d : Int} (h2 : x.kind ≠ 2) (h3 : x.kind ≠ 3) : deeper x d = d := by unfold deeper; rw [if_neg h2, if_neg h3]

theorem made_one (a b d : Nat) : One a b d := by
  have hb3 := Nat.mod_lt b (show 0 < 3 by decide)
  have hb6 := Nat.mod_lt b (show 0 < 6 by decide)
  have hb7 := Nat.mod_lt b (show 0 < 7 by decide)
  have hb9 := Nat.mod_lt b (show 0 < 9 by decide)
  have hb4 := Nat.mod_lt (b / 7) (show 0 < 4 by decide)
  by_cases h01 : a % 8 = 0 ∨ a % 8 = 1
  · have e : madeOne a b d = ([textO (text6 (b % 6))], d) := by unfold madeOne; rw [if_pos h01]
    have hs := sf_text6 _ hb6
    have hw : wt (textO (text6 (b % 6))) ≤ 5 := hs.1.sz
    refine ⟨?_, ?_, ?_, ?_, ?_, ?_, ?_⟩ <;> rw [e]
    · intro x hx; obtain rfl := List.mem_singleton.1 hx; exact hs
    · exact Nat.le_succ _
    · show wt _ + 0 + d ≤ _; omega
    · exact Nat.zero_le _
    · show 1 + d ≤ _; omega
    · show d ≤ _; omega
    · intro hd r
      have hdd : deeper (textO (text6 (b % 6))) d = d := deeper_same (by show (0 : Int) ≠ 2; decide) (by show (0 : Int) ≠ 3; decide)
      show checkGo (_ :: r) d = _
      rw [checkGo_step hs.1.ok _ _ (by rw [hdd]; omega) (by rw [hdd]; omega), hdd]
  by_cases h23 : a % 8 = 2 ∨ a % 8 = 3
  · have e : madeOne a b d = ([textO ⟨#[32]⟩, newlineO ((b % 3 : Nat) : Int)], d) := by unfold madeOne; rw [if_neg h01, if_pos h23]
    have hs := sf_newline _ hb3
    refine ⟨?_, ?_, ?_, ?_, ?_, ?_, ?_⟩ <;> rw [e]
    · intro x hx
      rcases List.mem_cons.1 hx with rfl | hx
      · exact sf_space
      · obtain rfl := List.mem_singleton.1 hx; exact hs
    · exact Nat.le_refl _
    · show 1 + (0 + 0) + d ≤ _; omega
    · exact Nat.le_refl _
    · show 2 + d ≤ _; omega
    · show d ≤ _; omega
    · intro hd r
      have hdd : deeper (textO ⟨#[32]⟩) d = d := deeper_same (by decide) (by decide)
      have hdd2 : deeper (newlineO ((b % 3 : Nat) : Int)) d = d := deeper_same (by show (1 : Int) ≠ 2; decide) (by show (1 : Int) ≠ 3; decide)
      show checkGo (_ :: _ :: r) d = _
      rw [checkGo_step sf_space.1.ok _ _ (by rw [hdd]; omega) (by rw [hdd]; omega), hdd, checkGo_step hs.1.ok _ _ (by rw [hdd2]; omega) (by rw [hdd2]; omega), hdd2]
  by_cases h4 : a % 8 = 4
  · have e : madeOne a b d = ([openO (openT (b % 3))], d + 1) := by unfold madeOne; rw [if_neg h01, if_neg h23, if_pos h4]
    have hs := sf_open _ hb3
    have hw : wt (openO (openT (b % 3))) ≤ 5 := hs.1.sz
    refine ⟨?_, ?_, ?_, ?_, ?_, ?_, ?_⟩ <;> rw [e]
    · intro x hx; obtain rfl := List.mem_singleton.1 hx; exact hs
    · exact Nat.le_succ _
    · show wt _ + 0 + (d + 1) ≤ _; omega
    · exact Nat.zero_le _
    · show 1 + (d + 1) ≤ _; omega
    · exact Nat.le_refl _
    · intro hd r
      have hdd : deeper (openO (openT (b % 3))) d = ((d + 1 : Nat) : Int) := by unfold deeper openO; simp
      show checkGo (_ :: r) d = _
      rw [checkGo_step hs.1.ok _ _ (by rw [hdd]; omega) (by rw [hdd]; omega), hdd]
  by_cases h5 : a % 8 = 5
  · by_cases hd0 : 0 < d
    · have e : madeOne a b d = ([closeO (closeT (b % 3))], d - 1) := by unfold madeOne; rw [if_neg h01, if_neg h23, if_neg h4, if_pos h5, if_pos hd0]
      have hs := sf_close _ hb3
      have hw : wt (closeO (closeT (b % 3))) ≤ 5 := hs.1.sz
      refine ⟨?_, ?_, ?_, ?_, ?_, ?_, ?_⟩ <;> rw [e]
      · intro x hx; obtain rfl := List.mem_singleton.1 hx; exact hs
      · exact Nat.le_succ _
      · show wt _ + 0 + (d - 1) ≤ _; omega
      · exact Nat.zero_le _
      · show 1 + (d - 1) ≤ _; omega
      · show d - 1 ≤ _; omega
      · intro hd r
        have hdd : deeper (closeO (closeT (b % 3))) d = ((d - 1 : Nat) : Int) := by unfold deeper closeO; simp; omega
        show checkGo (_ :: r) d = _
        rw [checkGo_step hs.1.ok _ _ (by rw [hdd]; omega) (by rw [hdd]; omega), hdd]
    · have e : madeOne a b d = ([], d) := by unfold madeOne; rw [if_neg h01, if_neg h23, if_neg h4, if_pos h5, if_neg hd0]
      refine ⟨?_, ?_, ?_, ?_, ?_, ?_, ?_⟩ <;> rw [e]
      · intro x hx; cases hx
      · exact Nat.zero_le _
      · show 0 + d ≤ _; omega
      · exact Nat.zero_le _
      · show 0 + d ≤ _; omega
      · show d ≤ _; omega
      · intro _ _; rfl
  by_cases h6 : a % 8 = 6
  · have e : madeOne a b d = ([indentO (((b % 9 : Nat) : Int) - 2) (decide (b % 2 = 0))], d) := by unfold madeOne; rw [if_neg h01, if_neg h23, if_neg h4, if_neg h5, if_pos h6]
    have hs := sf_indent (((b % 9 : Nat) : Int) - 2) (decide (b % 2 = 0)) (by omega) (by omega)
    have hw : wt (indentO (((b % 9 : Nat) : Int) - 2) (decide (b % 2 = 0))) ≤ 9 := by show (((b % 9 : Nat) : Int) - 2).toNat ≤ 9; omega
    refine ⟨?_, ?_, ?_, ?_, ?_, ?_, ?_⟩ <;> rw [e]
    · intro x hx; obtain rfl := List.mem_singleton.1 hx; exact hs
    · exact Nat.le_succ _
    · show wt _ + 0 + d ≤ _; omega
    · exact Nat.zero_le _
    · show 1 + d ≤ _; omega
    · show d ≤ _; omega
    · intro hd r
      have hdd : deeper (indentO (((b % 9 : Nat) : Int) - 2) (decide (b % 2 = 0))) d = d := deeper_same (by show (4 : Int) ≠ 2; decide) (by show (4 : Int) ≠ 3; decide)
      show checkGo (_ :: r) d = _
      rw [checkGo_step hs.1.ok _ _ (by rw [hdd]; omega) (by rw [hdd]; omega), hdd]
  · have e : madeOne a b d = ([tabO ((b % 7 : Nat) : Int) ((b / 7 % 4 : Nat) : Int) (decide (b % 2 = 0))], d) := by unfold madeOne; rw [if_neg h01, if_neg h23, if_neg h4, if_neg h5, if_neg h6]
    have hs := sf_tab ((b % 7 : Nat) : Int) ((b / 7 % 4 : Nat) : Int) (decide (b % 2 = 0)) (by omega) (by omega) (by omega) (by omega)
    have hw : wt (tabO ((b % 7 : Nat) : Int) ((b / 7 % 4 : Nat) : Int) (decide (b % 2 = 0))) ≤ 9 := by show ((b % 7 : Nat) : Int).toNat + ((b / 7 % 4 : Nat) : Int).toNat ≤ 9; omega
    refine ⟨?_, ?_, ?_, ?_, ?_, ?_, ?_⟩ <;> rw [e]
    · intro x hx; obtain rfl := List.mem_singleton.1 hx; exact hs
    · exact Nat.le_succ _
    · show wt _ + 0 + d ≤ _; omega
    · exact Nat.zero_le _
    · show 1 + d ≤ _; omega
    · show d ≤ _; omega
    · intro hd r
      have hdd : deeper (tabO ((b % 7 : Nat) : Int) ((b / 7 % 4 : Nat) : Int) (decide (b % 2 = 0))) d = d := deeper_same (by show (5 : Int) ≠ 2; decide) (by show (5 : Int) ≠ 3; decide)
      show checkGo (_ :: r) d = _
      rw [checkGo_step hs.1.ok _ _ (by rw [hdd]; omega) (by rw [hdd]; omega), hdd]

/-- What made makes. -/
structure Made (l : List (Nat × Nat)) (d : Nat) : Prop where
  sf : ∀ x ∈ madeGo l d, Sf x
  len : (madeGo l d).length ≤ 2 * l.length + d
  wt : wtSum (madeGo l d) ≤ 9 * l.length + d
  nl : nls (madeGo l d) ≤ l.length
  chk : d + l.length ≤ 100 → checkGo (madeGo l d) d = 0
theorem made_made : ∀ (l : List (Nat × Nat)) (d : Nat), Made l d
  | [], d => by
    refine ⟨fun x hx => ?_, ?_, ?_, ?_, fun h => checkGo_closes d (by simpa using h)⟩
    · obtain rfl := List.eq_of_mem_replicate hx; exact sf_close 0 (by decide)
    · show (List.replicate d _).length ≤ _; rw [List.length_replicate]; exact Nat.le_add_left ..
    · show wtSum (List.replicate d _) ≤ _
      have : ∀ k, wtSum (List.replicate k (closeO ⟨#[41]⟩)) = k := fun k => by
        induction k with
        | zero => rfl
        | succ k ih => rw [List.replicate_succ]; show 1 + wtSum _ = _; rw [ih]; omega
      rw [this]
      exact Nat.le_add_left ..
    · show nls (List.replicate d _) ≤ _
      have : ∀ k, nls (List.replicate k (closeO ⟨#[41]⟩)) = 0 := fun k => by
        induction k with
        | zero => rfl
        | succ k ih => rw [List.replicate_succ]; show 0 + nls _ = _; rw [ih]
      rw [this]
      exact Nat.zero_le _
  | x :: r, d => by
    have h1 := made_one x.1 x.2 d
    have h2 := made_made r (madeOne x.1 x.2 d).2
    have e : madeGo (x :: r) d = (madeOne x.1 x.2 d).1 ++ madeGo r (madeOne x.1 x.2 d).2 := rfl
    have := h1.len; have := h1.wt; have := h1.nl; have := h1.grow; have := h1.dep
    have := h2.len; have := h2.wt; have := h2.nl
    refine ⟨?_, ?_, ?_, ?_, ?_⟩ <;> rw [e]
    · intro y hy
      rcases List.mem_append.1 hy with hy | hy
      · exact h1.sf y hy
      · exact h2.sf y hy
    · rw [List.length_append, List.length_cons]; omega
    · rw [wtSum_append, List.length_cons]; omega
    · rw [nls_append, List.length_cons]; omega
    · intro h
      rw [List.length_cons] at h
      rw [h1.chk (by omega)]
      exact h2.chk (by omega)

theorem bytesSum_sm : ∀ (l : List Op), (∀ x ∈ l, Sm x) → bytesSum l ≤ 5 * l.length
  | [], _ => Nat.le_refl _
  | x :: r, h => by
    have h1 := (h x (List.mem_cons_self ..)).sz
    have h2 := bytesSum_sm r fun y hy => h y (List.mem_cons_of_mem _ hy)
    show x.text.size + bytesSum r ≤ _
    rw [List.length_cons]
    omega
theorem checkP_sm {l : List Op} (h : ∀ x ∈ l, Sm x) (hl : l.length ≤ 4000) (hg : checkGo l 0 = 0) : checkP l = 0 := by
  have := bytesSum_sm l h
  unfold checkP
  rw [if_neg (by omega), hg]

/-- The operations without the newlines. -/
def noNl (l : List Op) : List Op := l.filter fun x => x.kind != 1
theorem noNl_cons_pos {x : Op} (r : List Op) (h : x.kind ≠ 1) : noNl (x :: r) = x :: noNl r := List.filter_cons_of_pos (by simpa using h)
theorem noNl_cons_neg {x : Op} (r : List Op) (h : x.kind = 1) : noNl (x :: r) = noNl r := List.filter_cons_of_neg (by simp [h])
theorem checkGo_noNl : ∀ (l : List Op) (d : Int), (∀ x ∈ l, Sm x) → 0 ≤ d → d ≤ 100 → checkGo l d = 0 → checkGo (noNl l) d = 0
  | [], _, _, _, _, h => h
  | x :: r, d, hs, h0, h1, h => by
    have hx := hs x (List.mem_cons_self ..)
    have hr := fun y hy => hs y (List.mem_cons_of_mem x hy)
    rw [checkGo_cons, if_neg (by rw [hx.ok]; decide)] at h
    split at h
    · exact absurd h (by decide)
    · rename_i hd
      by_cases hk : x.kind = 1
      · rw [noNl_cons_neg r hk]
        rw [deeper_same (by omega) (by omega)] at h
        exact checkGo_noNl r d hr h0 h1 h
      · rw [noNl_cons_pos r hk, checkGo_step hx.ok _ _ (by omega) (by omega)]
        exact checkGo_noNl r _ hr (by omega) (by omega) h

theorem first_calm (nb : Bool) (l : List Op) (W M : Int) (h : ∀ x ∈ l, Sm x) (hW : nb = true → colEnd l 0 ≤ W) : Calm nb { out := [], at_ := 0, lines := 0, blocks := [firstBk l W M] } :=
  ⟨Int.le_refl _, rfl, fun e b hb => by
    obtain rfl := List.mem_singleton.1 hb
    exact ⟨by show (!wholeP W l 0) = false; rw [whole_true W l h 0 (hW e)]; rfl, by show (!fitsP W l 0 0) = false; rw [fits_true W l h 0 0 (hW e)]; rfl, rfl⟩⟩

/-- Render that breaks no line. -/
theorem render_calm (nb : Bool) (l : List Op) (W M : Int) (h : ∀ x ∈ l, Sm x) (hl : l.length ≤ 400) (hc : checkP l = 0) (hW1 : 1 ≤ W) (hW2 : W ≤ 200) (hM1 : 0 ≤ M) (hM2 : M ≤ 200) (hW : nb = true → colEnd l 0 ≤ W) (hN : nb = false → ∀ x ∈ l, x.kind ≠ 1) :
    ∃ s, RenderOk l W M s ∧ s.out = flatL l 0 := by
  obtain ⟨s, e, ho⟩ := steps_calm nb W M l h _ (first_calm nb l W M h hW) hW hN (by simp; omega)
  exact ⟨s, ⟨hc, hW1, hW2, hM1, hM2, e⟩, by rw [ho]; rfl⟩
/-- Render that may break lines. -/
theorem render_some (l : List Op) (W M : Int) (h : ∀ x ∈ l, Sf x) (hc : checkP l = 0) (hw : wtSum l ≤ 600) (hn : nls l ≤ 100) (hW1 : 1 ≤ W) (hW2 : W ≤ 200) (hM1 : 0 ≤ M) (hM2 : M ≤ 200) :
    ∃ s, RenderOk l W M s := by
  obtain ⟨s, e⟩ := steps_some W M l h 600 0 { out := [], at_ := 0, lines := 0, blocks := [firstBk l W M] } ⟨Int.le_refl _, Int.le_refl _, fun b hb => by
    obtain rfl := List.mem_singleton.1 hb
    exact ⟨Int.le_refl _, Int.le_refl _, Int.le_refl _, Int.le_refl _, rfl⟩⟩ (by omega) (by
      have : nls l * (1 + 600) ≤ 100 * (1 + 600) := Nat.mul_le_mul_right _ hn
      show 0 + _ + _ ≤ _
      omega)
  exact ⟨s, hc, hW1, hW2, hM1, hM2, e⟩
theorem flat_sm (l : List Op) (h : ∀ x ∈ l, Sm x) (hl : l.length ≤ 400) (hc : checkP l = 0) : flatP l = (⟨(flatL l 0).toArray⟩, 0) := by
  unfold flatP
  rw [if_neg (by rw [hc]; decide), flatGo_eq l h [] 0 (Int.le_refl _) (by simp; omega)]
  rfl
theorem width_plain {t : List UInt8} (h : Plain t) : widthP ⟨t.toArray⟩ = cnt t := by
  have h10 : (10 : UInt8) ∉ (⟨t.toArray⟩ : ByteArray).data.toList := by simpa using h.no10
  have hc : Lib.countB ⟨t.toArray⟩ ⟨#[10]⟩ = 0 := by
    show Lib.count (⟨t.toArray⟩ : ByteArray).data.toList [10] = 0
    rw [Lib.count_one]
    exact List.count_eq_zero.2 h10
  unfold widthP linesP
  rw [hc]
  show widthGo [⟨t.toArray⟩] 0 = _
  show max 0 (Lib.runeCount _) = _
  rw [count_plain h]
  omega

/-- THE LAW: if the flat text is not wider than the width, Render is Flat. -/
theorem flats_law (l : List (Nat × Nat)) (hl : l.length ≤ 60) (W M : Int) (hW1 : 1 ≤ W) (hW2 : W ≤ 200) (hM1 : 0 ≤ M) (hM2 : M ≤ 200) :
    flatP (madeGo l 0) = (⟨(flatL (madeGo l 0) 0).toArray⟩, 0) ∧ flatP (noNl (madeGo l 0)) = (⟨(flatL (noNl (madeGo l 0)) 0).toArray⟩, 0) ∧
      (∃ s, RenderOk (madeGo l 0) W M s ∧ ((widthP ⟨s.out.toArray⟩ : Int) = widthP ⟨s.out.toArray⟩) ∧ ((widthP ⟨(flatL (madeGo l 0) 0).toArray⟩ : Int) ≤ W → s.out = flatL (madeGo l 0) 0)) ∧
      (∃ s, RenderOk (noNl (madeGo l 0)) W M s ∧ s.out = flatL (noNl (madeGo l 0)) 0) := by
  have m := made_made l 0
  have hsm : ∀ x ∈ madeGo l 0, Sm x := fun x hx => (m.sf x hx).1
  have hlen := m.len
  have hwt := m.wt
  have hnl := m.nl
  have hg := m.chk (by omega)
  have hc := checkP_sm hsm (by omega) hg
  have hsub : (noNl (madeGo l 0)).length ≤ (madeGo l 0).length := List.length_filter_le ..
  have hsm2 : ∀ x ∈ noNl (madeGo l 0), Sm x := fun x hx => hsm x (List.mem_filter.1 hx).1
  have hno : ∀ x ∈ noNl (madeGo l 0), x.kind ≠ 1 := fun x hx => by simpa using (List.mem_filter.1 hx).2
  have hc2 := checkP_sm hsm2 (by omega) (checkGo_noNl _ 0 hsm (Int.le_refl _) (by decide) hg)
  refine ⟨flat_sm _ hsm (by omega) hc, flat_sm _ hsm2 (by omega) hc2, ?_, render_calm false _ W M hsm2 (by omega) hc2 hW1 hW2 hM1 hM2 (fun e => by cases e) (fun _ => hno)⟩
  by_cases hw : (widthP ⟨(flatL (madeGo l 0) 0).toArray⟩ : Int) ≤ W
  · obtain ⟨s, h1, h2⟩ := render_calm true _ W M hsm (by omega) hc hW1 hW2 hM1 hM2 (fun _ => by
      rw [colEnd_eq]
      rw [width_plain (flatL_plain _ hsm 0)] at hw
      omega) (fun e => by cases e)
    exact ⟨s, h1, rfl, fun _ => h2⟩
  · obtain ⟨s, h1⟩ := render_some (madeGo l 0) W M m.sf hc (by omega) (by omega) hW1 hW2 hM1 hM2
    exact ⟨s, h1, rfl, fun h => absurd h hw⟩
end Go.Proofs.YtljgpcaljedhpaaDoor
