/- step, whatever the operation. -/
import Derived.Test.YtljgpcaljedhpaaDoorX2
namespace Go.Proofs.YtljgpcaljedhpaaDoor
open Go.RowKit

/-- What Check asks of an operation by itself, so far as the walks and the laws lean on it. -/
structure Valid (x : Op) : Prop where
  k0 : 0 ≤ x.kind
  k5 : x.kind ≤ 5
  nl : x.kind = 1 → 0 ≤ x.n ∧ x.n ≤ 3
  ind : x.kind = 4 → -100 ≤ x.n ∧ x.n ≤ 100
  tab : x.kind = 5 → 0 ≤ x.n ∧ x.n ≤ 100 ∧ 0 ≤ x.m ∧ x.m ≤ 100
  utf : Lib.validD x.text.data.toList = true
  one : x.kind = 2 ∨ x.kind = 3 → nlB x.text = false

theorem valid_of {x : Op} (h : checkOne x = 0) : Valid x := by
  unfold checkOne at h
  split at h
  · cases h
  rename_i h1
  split at h
  · cases h
  rename_i h2
  split at h
  · cases h
  rename_i h3
  refine ⟨?_, ?_, fun hk => ?_, fun hk => ?_, fun hk => ?_, ?_, fun hk => ?_⟩
  · exact Int.not_lt.1 fun e => h1 (.inl e)
  · exact Int.not_lt.1 fun e => h1 (.inr (.inl e))
  · exact ⟨Int.not_lt.1 fun e => h1 (.inr (.inr (.inl ⟨hk, .inl e⟩))), Int.not_lt.1 fun e => h1 (.inr (.inr (.inl ⟨hk, .inr e⟩)))⟩
  · exact ⟨Int.not_lt.1 fun e => h1 (.inr (.inr (.inr (.inl ⟨hk, .inl e⟩)))), Int.not_lt.1 fun e => h1 (.inr (.inr (.inr (.inl ⟨hk, .inr e⟩))))⟩
  · exact ⟨Int.not_lt.1 fun e => h1 (.inr (.inr (.inr (.inr ⟨hk, .inl e⟩)))), Int.not_lt.1 fun e => h1 (.inr (.inr (.inr (.inr ⟨hk, .inr (.inl e)⟩)))), Int.not_lt.1 fun e => h1 (.inr (.inr (.inr (.inr ⟨hk, .inr (.inr (.inl e))⟩)))), Int.not_lt.1 fun e => h1 (.inr (.inr (.inr (.inr ⟨hk, .inr (.inr (.inr e))⟩))))⟩
  · simpa using h2
  · cases hn : nlB x.text
    · rfl
    · exact absurd ⟨hk, hn⟩ h3

theorem Valid.okOp {x : Op} (h : Valid x) : okOp x := h.tab

theorem kind_cases {x : Op} (h : Valid x) : x.kind = 0 ∨ x.kind = 1 ∨ x.kind = 2 ∨ x.kind = 3 ∨ x.kind = 4 ∨ x.kind = 5 := by
  have := h.k0; have := h.k5; omega

theorem good_lines {s : St} (h : Good s) : 0 ≤ s.lines ∧ s.lines ≤ 100000 := by
  have := h.ln; have := h.len; have := List.count_le_length (a := (10 : UInt8)) (l := s.out); omega
theorem good_at {s : St} (h : Good s) : 0 ≤ s.at_ ∧ s.at_ ≤ 100000 := by
  have := h.a0; have := h.a1; have := h.len; omega
theorem mem_dropLast_ {α : Type} {l : List α} {a : α} (h : a ∈ l.dropLast) : a ∈ l := (List.dropLast_sublist l).subset h
theorem topOf_mem {s : St} (h : s.blocks ≠ []) : topOf s ∈ s.blocks := by
  unfold topOf
  rw [List.getLastD_eq_getLast?, List.getLast?_eq_some_getLast h]
  exact List.getLast_mem h
theorem good_setTop {s : St} {b : Bk} (h : Good s) (hb : BkOk b) : Good { s with blocks := setTop s.blocks b } :=
  ⟨h.a0, h.a1, h.len, h.ln, fun c hc => by
    have hc' : c ∈ setTop s.blocks b := hc
    unfold setTop at hc'
    rcases List.mem_append.1 hc' with hm | hm
    · exact h.bk c (mem_dropLast_ hm)
    · obtain rfl := List.mem_singleton.1 hm; exact hb⟩

/-- The depth behind an operation. -/
def deeper (x : Op) (d : Int) : Int := if x.kind = 2 then d + 1 else if x.kind = 3 then d - 1 else d

theorem step_good {W M : Int} {s s' : St} {x : Op} {rest : List Op} (h : Good s) (hv : Valid x) (ht : x.text.size ≤ 20000) (hne : s.blocks ≠ []) (hs : stepP W M s x rest = some s') :
    Good s' ∧ (s'.blocks.length : Int) = deeper x s.blocks.length := by
  have hl0 : 0 < s.blocks.length := List.length_pos_iff.2 hne
  obtain ⟨l0, l1⟩ := good_lines h
  obtain ⟨a0, a1⟩ := good_at h
  have htop := h.bk _ (topOf_mem hne)
  unfold stepP at hs
  unfold deeper
  rcases kind_cases hv with hk | hk | hk | hk | hk | hk
  · rw [if_pos (.inl hk)] at hs
    obtain ⟨e, hl⟩ := put_some hs
    subst e
    exact ⟨put_good h hl, by rw [if_neg (by omega), if_neg (by omega)]; rfl⟩
  · rw [if_neg (by omega), if_neg (by omega), if_neg (by omega), if_neg (by omega)] at hs
    obtain ⟨s1, h1, h2⟩ := Option.bind_eq_some_iff.1 hs
    have hg1 : Good s1 ∧ s1.blocks = s.blocks := by
      split at h1
      · obtain ⟨k1, k2⟩ := broken_spec h1; exact ⟨k2 h, k1⟩
      · obtain rfl := Option.some.inj h1; exact ⟨h, rfl⟩
    obtain rfl := Option.some.inj h2
    obtain ⟨m0, m1⟩ := good_lines hg1.1
    refine ⟨good_setTop hg1.1 ⟨htop.s0, htop.s1, htop.i0, htop.i1, htop.f0, htop.f1, htop.pr, m0, by show s1.lines ≤ _; omega⟩, ?_⟩
    rw [if_neg (by omega), if_neg (by omega)]
    show ((setTop s1.blocks _).length : Int) = _
    rw [hg1.2, setTop_len _ _ (s.blocks.length - 1) (by omega)]
    omega
  · rw [if_neg (by omega), if_pos hk] at hs
    obtain ⟨s1, h1, h2⟩ := Option.bind_eq_some_iff.1 hs
    obtain ⟨e, hl⟩ := put_some h1
    subst e
    have hg1 := put_good h hl
    obtain ⟨m0, m1⟩ := good_lines hg1
    obtain ⟨c0, c1⟩ := good_at hg1
    obtain rfl := Option.some.inj h2
    refine ⟨⟨hg1.a0, hg1.a1, hg1.len, hg1.ln, fun c hc => ?_⟩, ?_⟩
    · have hc' : c ∈ s.blocks ++ [_] := hc
      rcases List.mem_append.1 hc' with hm | hm
      · exact h.bk c hm
      · obtain rfl := List.mem_singleton.1 hm
        refine ⟨c0, c1, c0, by show (putRaw s x.text).at_ ≤ _; omega, a0, by show s.at_ ≤ _; omega, ?_, m0, by show (putRaw s x.text).lines ≤ _; omega⟩
        show (if x.flag = true then x.text else ⟨#[]⟩ : ByteArray).size ≤ _
        split
        · exact ht
        · exact Nat.zero_le _
    · rw [if_pos hk]
      show ((s.blocks ++ [_]).length : Int) = _
      rw [List.length_append]
      simp
  · rw [if_neg (by omega), if_neg (by omega), if_pos hk] at hs
    obtain ⟨s1, h1, h2⟩ := Option.bind_eq_some_iff.1 hs
    obtain ⟨e, hl⟩ := put_some h1
    subst e
    have hg1 := put_good h hl
    obtain rfl := Option.some.inj h2
    refine ⟨⟨hg1.a0, hg1.a1, hg1.len, hg1.ln, fun c hc => h.bk c (mem_dropLast_ hc)⟩, ?_⟩
    rw [if_neg (by omega), if_pos hk]
    show (s.blocks.dropLast.length : Int) = _
    rw [List.length_dropLast]
    omega
  · rw [if_neg (by omega), if_neg (by omega), if_neg (by omega), if_pos hk] at hs
    obtain ⟨n0, n1⟩ := hv.ind hk
    rw [if_neg (by omega), if_neg (by omega)]
    split at hs
    · obtain rfl := Option.some.inj hs; exact ⟨h, rfl⟩
    · obtain rfl := Option.some.inj hs
      have := htop.s0; have := htop.s1
      refine ⟨good_setTop h ⟨htop.s0, htop.s1, ?_, ?_, htop.f0, htop.f1, htop.pr, htop.l0, htop.l1⟩, ?_⟩
      · show 0 ≤ max _ (0 : Int); omega
      · show max (if x.flag = true then s.at_ + x.n else (topOf s).start + x.n) (0 : Int) ≤ _
        split <;> omega
      · show ((setTop s.blocks _).length : Int) = _
        rw [setTop_len _ _ (s.blocks.length - 1) (by omega)]
        omega
  · rw [if_pos (.inr hk)] at hs
    obtain ⟨e, hl⟩ := put_some hs
    subst e
    exact ⟨put_good h hl, by rw [if_neg (by omega), if_neg (by omega)]; rfl⟩

theorem step_any {E : World → Prop} (L : LibC E) (w0 : World) (g : Nat) (A : Option Addr) (l : List Op) (cap : Nat) (W M : Int) (bv : Value) (ps : List Nat) (s s' : St) (i : Nat) (x : Op) (w : World) (h : Given E w0 g A l cap W M bv ps s i x w)
    (hv : Valid x) (hW0 : 0 ≤ W) (hW : W ≤ 1000000) (hs : stepP W M s x (l.drop (i + 1)) = some s') :
    Calls Tryd.prog 32 #[.pointer (some ⟨g, 0, none⟩), .int .i64 i] w fun e w' => e = .returned (.tuple #[]) ∧ RepE w0 g (.slice A l.length cap) W M s' w' := by
  unfold stepP at hs
  rcases kind_cases hv with hk | hk | hk | hk | hk | hk
  · rw [if_pos (.inl hk)] at hs
    obtain ⟨e, hl⟩ := put_some hs
    subst e
    exact (step_text L w0 g A l cap W M bv ps s i x w h (.inl hk) hl).mono fun _ _ ⟨he, h⟩ => ⟨he, _, _, h⟩
  · rw [if_neg (by omega), if_neg (by omega), if_neg (by omega), if_neg (by omega)] at hs
    obtain ⟨s1, h1, h2⟩ := Option.bind_eq_some_iff.1 hs
    obtain rfl := Option.some.inj h2
    exact (step_newline L w0 g A l cap W M bv ps s s1 i x w h hk h1).mono fun _ _ ⟨he, h⟩ => ⟨he, _, _, h⟩
  · rw [if_neg (by omega), if_pos hk] at hs
    obtain ⟨s1, h1, h2⟩ := Option.bind_eq_some_iff.1 hs
    obtain ⟨e, hl⟩ := put_some h1
    subst e
    obtain rfl := Option.some.inj h2
    exact step_open L w0 g A l cap W M bv ps s i x w h hk hl hW0 hW
  · rw [if_neg (by omega), if_neg (by omega), if_pos hk] at hs
    obtain ⟨s1, h1, h2⟩ := Option.bind_eq_some_iff.1 hs
    obtain ⟨e, hl⟩ := put_some h1
    subst e
    obtain rfl := Option.some.inj h2
    exact step_close L w0 g A l cap W M bv ps s i x w h hk hl
  · rw [if_neg (by omega), if_neg (by omega), if_neg (by omega), if_pos hk] at hs
    obtain ⟨n0, n1⟩ := hv.ind hk
    refine (step_indent w0 g A l cap W M bv ps s i x w h hk n0 n1).mono fun _ _ ⟨he, h⟩ => ⟨he, bv, ps, ?_⟩
    split at hs
    · rename_i hm
      obtain rfl := Option.some.inj hs
      rw [if_pos hm] at h
      exact h
    · rename_i hm
      obtain rfl := Option.some.inj hs
      rw [if_neg hm] at h
      exact h
  · rw [if_pos (.inr hk)] at hs
    obtain ⟨e, hl⟩ := put_some hs
    subst e
    exact (step_text L w0 g A l cap W M bv ps s i x w h (.inr hk) hl).mono fun _ _ ⟨he, h⟩ => ⟨he, _, _, h⟩
end Go.Proofs.YtljgpcaljedhpaaDoor
