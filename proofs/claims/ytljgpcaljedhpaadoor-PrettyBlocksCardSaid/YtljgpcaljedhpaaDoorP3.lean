/- Render of small operations never makes too long a text; made's operations. -/
import Derived.Test.YtljgpcaljedhpaaDoorP2
namespace Go.Proofs.YtljgpcaljedhpaaDoor

/-- How far an operation moves columns. -/
def wt (x : Op) : Nat := if x.kind = 4 then x.n.toNat else if x.kind = 5 then x.n.toNat + x.m.toNat else x.text.size
def wtSum : List Op → Nat
  | [] => 0
  | x :: r => wt x + wtSum r
def nls : List Op → Nat
  | [] => 0
  | x :: r => (if x.kind = 1 then 1 else 0) + nls r

/-- The columns of a state are at most p. -/
structure Low (p : Int) (s : St) : Prop where
  c0 : 0 ≤ s.at_
  c1 : s.at_ ≤ p
  bk : ∀ b ∈ s.blocks, 0 ≤ b.start ∧ b.start ≤ p ∧ 0 ≤ b.indent ∧ b.indent ≤ p ∧ b.each = false
theorem Low.mono {p q : Int} {s : St} (h : Low p s) (hpq : p ≤ q) : Low q s :=
  ⟨h.c0, by have := h.c1; omega, fun b hb => by obtain ⟨h1, h2, h3, h4, h5⟩ := h.bk b hb; exact ⟨h1, by omega, h3, by omega, h5⟩⟩
theorem Low.top {p : Int} {s : St} (h : Low p s) : 0 ≤ (topOf s).start ∧ (topOf s).start ≤ p ∧ 0 ≤ (topOf s).indent ∧ (topOf s).indent ≤ p ∧ (topOf s).each = false := by
  by_cases hne : s.blocks = []
  · have := h.c0; have := h.c1
    unfold topOf; rw [hne]; exact ⟨by decide, by show (0 : Int) ≤ p; omega, by decide, by show (0 : Int) ≤ p; omega, rfl⟩
  · exact h.bk _ (topOf_mem hne)

theorem sp_wt (x : Op) (c : Int) (hn0 : 0 ≤ x.n) (hm0 : 0 ≤ x.m) (hc : 0 ≤ c) : (spacesP x c).toNat ≤ x.n.toNat + x.m.toNat := by
  unfold spacesP
  split
  · split
    · omega
    · split
      · omega
      · rename_i h1 h2
        have := Int.emod_nonneg (c + x.n) h1
        omega
  · split
    · omega
    · split
      · omega
      · rename_i h1
        have := Int.emod_nonneg (c - x.n) h1
        omega
theorem written_wt {x : Op} (h : Sm x) (c : Int) (hc : 0 ≤ c) : (writtenP x c).data.toList.length ≤ wt x := by
  unfold writtenP wt
  rcases kind_cases h.valid with hk | hk | hk | hk | hk | hk
  · rw [if_pos hk, if_neg (by omega), if_neg (by omega)]; exact Nat.le_refl _
  · rw [if_neg (by omega), if_neg (by omega), if_neg (by omega), if_neg (by omega)]; exact Nat.zero_le _
  · rw [if_neg (by omega), if_pos hk, if_neg (by omega), if_neg (by omega)]; exact Nat.le_refl _
  · rw [if_neg (by omega), if_neg (by omega), if_pos hk, if_neg (by omega), if_neg (by omega)]; exact Nat.le_refl _
  · rw [if_neg (by omega), if_neg (by omega), if_neg (by omega), if_neg (by omega)]; exact Nat.zero_le _
  · rw [if_neg (by omega), if_neg (by omega), if_neg (by omega), if_pos hk, if_neg (by omega), if_pos hk]
    obtain ⟨n0, n1, m0, m1⟩ := h.tab hk
    have := sp_wt x c n0 m0 hc
    have e := spB_size (spacesP x c).toNat
    have e' : (spB (spacesP x c).toNat).data.toList.length = (spacesP x c).toNat := e
    omega

theorem col_nl (c : Int) : colP c ⟨#[10]⟩ = 0 := by
  unfold colP
  rw [show Lib.lastIndexByte ⟨#[10]⟩ 10 = 0 by decide, if_pos (by decide)]
  rfl
theorem trimR_le (l : List UInt8) : (trimR l).length ≤ l.length := by
  unfold trimR
  rw [List.length_reverse]
  have := (List.dropWhile_sublist (· == (32 : UInt8)) (l := l.reverse)).length_le
  simpa using this
theorem prefixes_none : ∀ (l : List Bk) (s : St), (∀ b ∈ l, b.each = false) → prefixesP l s = some s
  | [], _, _ => rfl
  | b :: r, s, h => by
    unfold prefixesP
    rw [if_neg (by rw [h b (List.mem_cons_self ..)]; decide)]
    exact prefixes_none r s fun c hc => h c (List.mem_cons_of_mem _ hc)
theorem plain_spB (k : Nat) : Plain (spB k).data.toList := plain_spaces k
theorem cnt_spB (k : Nat) : cnt (spB k).data.toList = k := by
  unfold spB cnt
  show (Lib.repeatL [32] k).countP _ = k
  induction k with
  | zero => rfl
  | succ k ih => show ([32] ++ Lib.repeatL [32] k).countP _ = k + 1; rw [List.countP_append, ih]; simp; omega
theorem putRaw_len (s : St) (t : ByteArray) : (putRaw s t).out.length = s.out.length + t.size := by
  show (s.out ++ t.data.toList).length = _
  rw [List.length_append]
  rfl

/-- A line that is broken: the text behind it. -/
def brokenOut (top : Bk) (s : St) : List UInt8 := trimR s.out ++ [10] ++ (spB top.indent.toNat).data.toList
theorem broken_low {p : Int} {s : St} (h : Low p s) (hl : s.out.length + 1 + p.toNat ≤ 100000) :
    ∃ s1, brokenP (topOf s) s = some s1 ∧ s1.out = brokenOut (topOf s) s ∧ s1.at_ = (topOf s).indent ∧ s1.blocks = s.blocks := by
  obtain ⟨t0, t1, t2, t3, t4⟩ := h.top
  have htl := trimR_le s.out
  unfold brokenP
  have e1 : putP { s with out := trimR s.out } ⟨#[10]⟩ = some (putRaw { s with out := trimR s.out } ⟨#[10]⟩) := by
    unfold putP
    rw [if_pos (by rw [putRaw_len]; show (trimR s.out).length + 1 ≤ 100000; omega)]
  rw [e1]
  have e2 : prefixesP (putRaw { s with out := trimR s.out } ⟨#[10]⟩).blocks (putRaw { s with out := trimR s.out } ⟨#[10]⟩) = some (putRaw { s with out := trimR s.out } ⟨#[10]⟩) :=
    prefixes_none _ _ fun b hb => (h.bk b hb).2.2.2.2
  have e3 : (putRaw { s with out := trimR s.out } ⟨#[10]⟩).at_ = 0 := col_nl s.at_
  refine ⟨putRaw (putRaw { s with out := trimR s.out } ⟨#[10]⟩) (spB (topOf s).indent.toNat), ?_, rfl, ?_, rfl⟩
  · show (prefixesP (putRaw { s with out := trimR s.out } ⟨#[10]⟩).blocks (putRaw { s with out := trimR s.out } ⟨#[10]⟩)).bind _ = _
    rw [e2]
    show putP (putRaw { s with out := trimR s.out } ⟨#[10]⟩) (spB (max ((topOf s).indent - (putRaw { s with out := trimR s.out } ⟨#[10]⟩).at_) 0).toNat) = _
    rw [e3, show (max ((topOf s).indent - 0) 0).toNat = (topOf s).indent.toNat by omega]
    unfold putP
    rw [if_pos (by
      rw [putRaw_len, putRaw_len, spB_size]
      show (trimR s.out).length + 1 + _ ≤ 100000
      omega)]
  · show colP (putRaw { s with out := trimR s.out } ⟨#[10]⟩).at_ (spB (topOf s).indent.toNat) = _
    rw [e3, col_plain (plain_spB _), cnt_spB]
    omega

theorem put_low {p : Int} {s : St} {t : ByteArray} (h : Low p s) (ht : Plain t.data.toList) (k : Nat) (hk : t.data.toList.length ≤ k) (hl : s.out.length + k ≤ 100000) :
    putP s t = some (putRaw s t) ∧ Low (p + k) (putRaw s t) ∧ (putRaw s t).out.length ≤ s.out.length + k := by
  have e := putRaw_len s t
  have e' : t.size = t.data.toList.length := rfl
  refine ⟨by unfold putP; rw [if_pos (by omega)], ?_, by omega⟩
  have hc : (putRaw s t).at_ = s.at_ + (cnt t.data.toList : Int) := col_plain ht
  have := cnt_le t.data.toList
  have := h.c0
  have := h.c1
  refine ⟨by omega, by omega, (h.mono (by omega)).bk⟩

theorem step_low (W M : Int) (x : Op) (r : List Op) (hx : Sm x) (hfl : x.kind = 2 → x.flag = false) (p : Int) (s : St) (hs : Low p s) (hl : s.out.length + wt x + (if x.kind = 1 then 1 + p.toNat else 0) ≤ 100000) :
    ∃ s1, stepP W M s x r = some s1 ∧ Low (p + wt x) s1 ∧ s1.out.length ≤ s.out.length + wt x + (if x.kind = 1 then 1 + p.toNat else 0) := by
  have hw := written_plain hx s.at_
  have hwl := written_wt hx s.at_ hs.c0
  obtain ⟨hput, hlow, hlen⟩ := put_low hs hw (wt x) hwl (by split at hl <;> omega)
  have hc0 := hs.c0
  have hc1 := hs.c1
  obtain ⟨t0, t1, t2, t3, t4⟩ := hs.top
  have setLow : ∀ {s1 : St} {b : Bk}, Low (p + wt x) s1 → (0 ≤ b.start ∧ b.start ≤ p + wt x ∧ 0 ≤ b.indent ∧ b.indent ≤ p + wt x ∧ b.each = false) → Low (p + wt x) { s1 with blocks := setTop s1.blocks b } := fun {s1 b} h hb =>
    ⟨h.c0, h.c1, fun c hc => by
      rcases mem_setTop hc with hc | rfl
      · exact h.bk c hc
      · exact hb⟩
  unfold stepP
  rcases kind_cases hx.valid with hk | hk | hk | hk | hk | hk
  · rw [if_pos (.inl hk)]
    have hz : (if x.kind = 1 then 1 + p.toNat else 0) = 0 := if_neg (by omega)
    rw [hz]
    exact ⟨_, hput, hlow, hlen⟩
  · rw [if_neg (by omega), if_neg (by omega), if_neg (by omega), if_neg (by omega)]
    rw [if_pos hk] at hl ⊢
    by_cases hb : breaksP W s (topOf s) x r = true
    · rw [if_pos hb]
      obtain ⟨s1, e1, ho, ha, hbk⟩ := broken_low hs (by omega)
      rw [e1]
      have hol : s1.out.length ≤ s.out.length + 1 + p.toNat := by
        rw [ho]
        unfold brokenOut
        have := trimR_le s.out
        rw [List.length_append, List.length_append]
        have e := spB_size (topOf s).indent.toNat
        have e' : (spB (topOf s).indent.toNat).data.toList.length = (topOf s).indent.toNat := e
        simp only [List.length_cons, List.length_nil]
        omega
      have hlow1 : Low (p + wt x) s1 := ⟨by omega, by omega, by rw [hbk]; exact (hs.mono (by omega)).bk⟩
      refine ⟨_, rfl, setLow hlow1 ⟨t0, by show (topOf s).start ≤ _; omega, t2, by show (topOf s).indent ≤ _; omega, t4⟩, by show s1.out.length ≤ _; omega⟩
    · rw [if_neg hb]
      refine ⟨_, rfl, setLow (hs.mono (by omega)) ⟨t0, by show (topOf s).start ≤ _; omega, t2, by show (topOf s).indent ≤ _; omega, t4⟩, by show s.out.length ≤ _; omega⟩
  · rw [if_neg (by omega), if_pos hk]
    have hwe : writtenP x s.at_ = x.text := by unfold writtenP; rw [if_neg (by omega), if_pos hk]
    rw [hwe] at hput hlow hlen
    rw [hput]
    have hz : (if x.kind = 1 then 1 + p.toNat else 0) = 0 := if_neg (by omega)
    rw [hz]
    refine ⟨_, rfl, ⟨hlow.c0, hlow.c1, fun b hb => ?_⟩, hlen⟩
    have hb' : b ∈ s.blocks ++ [_] := hb
    rcases List.mem_append.1 hb' with hb' | hb'
    · exact (hs.mono (by omega)).bk b hb'
    · obtain rfl := List.mem_singleton.1 hb'
      exact ⟨hlow.c0, hlow.c1, hlow.c0, hlow.c1, hfl hk⟩
  · rw [if_neg (by omega), if_neg (by omega), if_pos hk]
    have hwe : writtenP x s.at_ = x.text := by unfold writtenP; rw [if_neg (by omega), if_neg (by omega), if_pos hk]
    rw [hwe] at hput hlow hlen
    rw [hput]
    have hz : (if x.kind = 1 then 1 + p.toNat else 0) = 0 := if_neg (by omega)
    rw [hz]
    exact ⟨_, rfl, ⟨hlow.c0, hlow.c1, fun b hb => hlow.bk b (mem_dropLast_ hb)⟩, hlen⟩
  · rw [if_neg (by omega), if_neg (by omega), if_neg (by omega), if_pos hk]
    have hz : (if x.kind = 1 then 1 + p.toNat else 0) = 0 := if_neg (by omega)
    rw [hz] at hl ⊢
    have hwt : wt x = x.n.toNat := by unfold wt; rw [if_pos hk]
    split
    · exact ⟨s, rfl, hs.mono (by omega), by omega⟩
    · refine ⟨_, rfl, setLow (hs.mono (by omega)) ⟨t0, by show (topOf s).start ≤ _; omega, ?_, ?_, t4⟩, by show s.out.length ≤ _; omega⟩
      · show 0 ≤ max _ (0 : Int); omega
      · show max (if x.flag = true then s.at_ + x.n else (topOf s).start + x.n) (0 : Int) ≤ _
        split <;> omega
  · rw [if_pos (.inr hk)]
    have hz : (if x.kind = 1 then 1 + p.toNat else 0) = 0 := if_neg (by omega)
    rw [hz]
    exact ⟨_, hput, hlow, hlen⟩

theorem steps_some (W M : Int) : ∀ (l : List Op), (∀ x ∈ l, Sm x ∧ (x.kind = 2 → x.flag = false)) → ∀ (q : Nat) (p : Int) (s : St), Low p s → p + wtSum l ≤ q → s.out.length + wtSum l + nls l * (1 + q) ≤ 100000 → ∃ s', stepsP W M l s = some s'
  | [], _, _, _, s, _, _, _ => ⟨s, rfl⟩
  | x :: r, h, q, p, s, hs, hp, hl => by
    obtain ⟨hx, hfl⟩ := h x (List.mem_cons_self ..)
    unfold wtSum at hp hl
    unfold nls at hl
    have hc0 := hs.c0
    have hc1 := hs.c1
    rw [Nat.add_mul] at hl
    obtain ⟨s1, e1, hlow, hlen⟩ := step_low W M x r hx hfl p s hs (by
      split
      · rename_i hk
        rw [if_pos hk, Nat.one_mul] at hl
        omega
      · omega)
    obtain ⟨s', e2⟩ := steps_some W M r (fun y hy => h y (List.mem_cons_of_mem _ hy)) q (p + wt x) s1 hlow (by omega) (by
      split at hlen
      · rename_i hk
        rw [if_pos hk, Nat.one_mul] at hl
        omega
      · omega)
    refine ⟨s', ?_⟩
    unfold stepsP
    rw [e1]
    exact e2
end Go.Proofs.YtljgpcaljedhpaaDoor
