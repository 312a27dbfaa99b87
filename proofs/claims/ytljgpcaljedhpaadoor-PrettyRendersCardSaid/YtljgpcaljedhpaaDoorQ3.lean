/- The reference's steps as plain Lean functions, and that they do what the program's steps do. No program in sight. -/
import Derived.Test.YtljgpcaljedhpaaDoorQ2
namespace Go.Proofs.YtljgpcaljedhpaaDoor

/-- The reference keeps each block's text, the program that of a block with a prefix of each line. -/
def norm (b : Bk) : Bk := { b with pre := if b.each = true then b.pre else ⟨#[]⟩ }
def normS (s : St) : St := { s with blocks := s.blocks.map norm }
/-- Two puts a block. -/
def rprefixesP : List Bk → St → St
  | [], s => s
  | b :: r, s => if b.each = true then rprefixesP r (putRaw (putRaw s (spB (b.front - s.at_).toNat)) b.pre) else rprefixesP r s
def rbrokenP (s : St) : St :=
  putRaw (rprefixesP s.blocks (putRaw { s with out := trimR s.out } ⟨#[10]⟩)) (spB ((topOf s).indent - (rprefixesP s.blocks (putRaw { s with out := trimR s.out } ⟨#[10]⟩)).at_).toNat)
def rbreaksP (w : Int) (s : St) (x : Op) (rest : List Op) : Bool :=
  if x.n = 0 then (topOf s).long else if x.n = 1 then (!rfitsP w rest 0 0 s.at_ || (topOf s).lines != s.lines || ((topOf s).long && (topOf s).miser)) else if x.n = 2 then ((topOf s).long && (topOf s).miser) else true
def rbegunP (w mi : Int) (s : St) (x : Op) (rest : List Op) : St :=
  { putRaw s x.text with blocks := s.blocks ++ [{ start := (putRaw s x.text).at_, indent := (putRaw s x.text).at_, front := s.at_, pre := x.text, long := (topOf s).slong, miser := decide (w - (putRaw s x.text).at_ ≤ mi), each := x.flag, lines := (putRaw s x.text).lines, slong := !rfitsP w rest 0 0 (putRaw s x.text).at_ }] }
def rstepP (w mi : Int) (s : St) (x : Op) (rest : List Op) : St :=
  if x.kind = 0 then putRaw s x.text
  else if x.kind = 2 then rbegunP w mi s x rest
  else if x.kind = 3 then { putRaw s x.text with blocks := s.blocks.dropLast }
  else if x.kind = 4 then
    (if (topOf s).miser = true then s else { s with blocks := setTop s.blocks { topOf s with indent := max (if x.flag = true then s.at_ + x.n else (topOf s).start + x.n) 0 } })
  else if x.kind = 5 then putRaw s (spB (spacesP x s.at_).toNat)
  else { (if rbreaksP w s x rest = true then rbrokenP s else s) with blocks := setTop s.blocks { topOf s with lines := (if rbreaksP w s x rest = true then rbrokenP s else s).lines, slong := !rfitsP w rest 0 0 (if rbreaksP w s x rest = true then rbrokenP s else s).at_ } }
def rstepsP (w mi : Int) : List Op → St → Option St
  | [], s => some s
  | x :: r, s => if (rstepP w mi s x r).out.length ≤ 100000 then rstepsP w mi r (rstepP w mi s x r) else none

/-- What the laws ask of a state of the reference. -/
structure RInv (s : St) : Prop where
  good : Good s
  ne : s.blocks ≠ []
  pre : ∀ b ∈ s.blocks, Lib.validD b.pre.data.toList = true ∧ (b.each = true → nlB b.pre = false)

theorem put_norm (s : St) (t : ByteArray) : putRaw (normS s) t = normS (putRaw s t) := rfl
theorem putP_norm (s : St) (t : ByteArray) : putP (normS s) t = if (putRaw s t).out.length ≤ 100000 then some (normS (putRaw s t)) else none := rfl
theorem putP_if (s : St) (t : ByteArray) : putP s t = if (putRaw s t).out.length ≤ 100000 then some (putRaw s t) else none := rfl
theorem top_norm (s : St) : topOf (normS s) = norm (topOf s) := by
  unfold topOf normS
  simp only [List.getLastD_eq_getLast?, List.getLast?_map]
  cases s.blocks.getLast? <;> rfl
theorem setTop_norm (l : List Bk) (b : Bk) : setTop (l.map norm) (norm b) = (setTop l b).map norm := by
  unfold setTop
  rw [List.map_append, List.map_dropLast]
  rfl

theorem lib_spaces (k : Nat) (t : List UInt8) : Lib.validD ((spB k).data.toList ++ t) = Lib.validD t := by
  show Lib.validD (Lib.repeatL [32] k ++ t) = _
  induction k with
  | zero => rfl
  | succ k ih =>
    show Lib.validD (32 :: (Lib.repeatL [32] k ++ t)) = _
    rw [Lib.validD_cons 32 _ (by decide), ih]
theorem feed_spaces (t : List UInt8) : ∀ (k w : Nat), feedW ((spB k).data.toList ++ t) w = feedW t (w + k)
  | 0, w => rfl
  | k + 1, w => by
    show (if (32 : UInt8) = 10 then feedW (Lib.repeatL [32] k ++ t) 0 else feedW (Lib.repeatL [32] k ++ t) (if startB 32 = true then w + 1 else w)) = feedW t (w + (k + 1))
    rw [if_neg (by decide), if_pos (by decide)]
    have := feed_spaces t k (w + 1)
    rw [show feedW (Lib.repeatL [32] k ++ t) (w + 1) = feedW t (w + 1 + k) from this]
    congr 1
    omega
theorem count_spaces (k : Nat) (t : List UInt8) : Lib.countByte ((spB k).data.toList ++ t) 10 = Lib.countByte t 10 := by
  unfold Lib.countByte
  rw [List.count_append]
  have : ((spB k).data.toList).count 10 = 0 := List.count_eq_zero.2 (spB_plain k).no10
  omega
theorem lfs_spB (k : Nat) : lfs (spB k) = 0 := List.count_eq_zero.2 (spB_plain k).no10

/-- Spaces and a text: at once, or one behind the other. -/
theorem put_two (s : St) (k : Nat) (t : ByteArray) (hv : Lib.validD t.data.toList = true) (hn : nlB t = false) : putRaw s (spB k ++ t) = putRaw (putRaw s (spB k)) t := by
  have e : (spB k ++ t).data.toList = (spB k).data.toList ++ t.data.toList := by rw [ByteArray.data_append, Array.toList_append]
  have h10 : (10 : UInt8) ∉ t.data.toList := fun h => by rw [(nlB_iff t).2 h] at hn; cases hn
  have hnn : nlB (spB k ++ t) = false := nlB_none (by
    rw [e, List.mem_append, not_or]
    exact ⟨(spB_plain k).no10, h10⟩)
  have hc : colP s.at_ (spB k ++ t) = colP (colP s.at_ (spB k)) t := by
    rw [col_flat _ _ (by rw [e, lib_spaces]; exact hv) hnn, col_sp, col_flat _ _ hv hn]
    unfold fw
    rw [e, feed_spaces, Nat.zero_add, feedW_no _ _ h10, feedW_no _ _ h10]
    omega
  unfold putRaw
  simp only [e, hc, List.append_assoc, count_spaces]
  congr 1
  have : (Lib.countByte (spB k).data.toList 10 : Int) = 0 := by
    have := lfs_spB k
    unfold lfs at this
    omega
  omega

theorem put_grows (s : St) (t : ByteArray) : s.out.length ≤ (putRaw s t).out.length := by rw [put_len]; omega
theorem rprefixes_grows : ∀ (l : List Bk) (s : St), s.out.length ≤ (rprefixesP l s).out.length
  | [], s => Nat.le_refl _
  | b :: r, s => by
    unfold rprefixesP
    split
    · exact Nat.le_trans (Nat.le_trans (put_grows _ _) (put_grows _ _)) (rprefixes_grows r _)
    · exact rprefixes_grows r s
theorem rprefixes_blocks : ∀ (l : List Bk) (s : St), (rprefixesP l s).blocks = s.blocks
  | [], s => rfl
  | b :: r, s => by
    unfold rprefixesP
    split
    · rw [rprefixes_blocks r]; rfl
    · exact rprefixes_blocks r s

theorem prefixes_same : ∀ (l : List Bk) (s : St), (∀ b ∈ l, Lib.validD b.pre.data.toList = true ∧ (b.each = true → nlB b.pre = false)) → s.out.length ≤ 100000 →
    prefixesP (l.map norm) (normS s) = if (rprefixesP l s).out.length ≤ 100000 then some (normS (rprefixesP l s)) else none
  | [], s, _, hs => by
    show some (normS s) = if s.out.length ≤ 100000 then some (normS s) else none
    rw [if_pos hs]
  | b :: r, s, hb, hs => by
    have hr : ∀ c ∈ r, Lib.validD c.pre.data.toList = true ∧ (c.each = true → nlB c.pre = false) := fun c hc => hb c (by simp [hc])
    obtain ⟨h1, h2⟩ := hb b (by simp)
    rw [List.map_cons]
    unfold prefixesP rprefixesP
    by_cases he : b.each = true
    · have e1 : (norm b).each = true := he
      have e2 : (norm b).pre = b.pre := by unfold norm; simp [he]
      have e3 : (max ((norm b).front - (normS s).at_) 0).toNat = (b.front - s.at_).toNat := by
        show (max (b.front - s.at_) 0).toNat = _
        omega
      rw [if_pos e1, if_pos he, e2, e3, putP_norm, put_two s _ _ h1 (h2 he)]
      split
      · rename_i hl
        rw [Option.bind_some]
        exact prefixes_same r _ hr hl
      · rename_i hl
        rw [if_neg]
        · rfl
        · have := rprefixes_grows r (putRaw (putRaw s (spB (b.front - s.at_).toNat)) b.pre)
          omega
    · have e1 : ¬ (norm b).each = true := he
      rw [if_neg e1, if_neg he]
      exact prefixes_same r s hr hs

theorem broken_same (s : St) (h : RInv s) : brokenP (topOf (normS s)) (normS s) = if (rbrokenP s).out.length ≤ 100000 then some (normS (rbrokenP s)) else none := by
  unfold brokenP rbrokenP
  rw [show ({ normS s with out := trimR (normS s).out } : St) = normS { s with out := trimR s.out } from rfl, putP_norm]
  generalize hs1 : putRaw { s with out := trimR s.out } ⟨#[10]⟩ = s1
  have hb1 : s1.blocks = s.blocks := by rw [← hs1]; rfl
  have hg := rprefixes_grows s.blocks s1
  split
  · rename_i hl
    rw [Option.bind_some, show (normS s1).blocks = s.blocks.map norm from by rw [← hb1]; rfl, prefixes_same s.blocks s1 h.pre hl]
    generalize rprefixesP s.blocks s1 = s2 at *
    split
    · rename_i hl2
      rw [Option.bind_some, putP_norm]
      have e : (max ((topOf (normS s)).indent - (normS s2).at_) 0).toNat = ((topOf s).indent - s2.at_).toNat := by
        rw [top_norm]
        show (max ((topOf s).indent - s2.at_) 0).toNat = _
        omega
      rw [e]
    · rename_i hl2
      rw [if_neg]
      · rfl
      · rw [put_len]; omega
  · rename_i hl
    rw [if_neg]
    · rfl
    · rw [put_len]; omega

theorem rfits0 (w : Int) (l : List Op) (c : Int) (hv : ∀ x ∈ l, Valid x) (h0 : 0 ≤ c) : rfitsP w l 0 0 c = fitsP w l 0 c := rfits_same w l 0 0 c hv h0 (Int.le_refl _)
theorem breaks_same (w : Int) (s : St) (x : Op) (rest : List Op) (hx : Valid x) (hk : x.kind = 1) (hr : ∀ y ∈ rest, Valid y) (h0 : 0 ≤ s.at_) : breaksP w (normS s) (topOf (normS s)) x rest = rbreaksP w s x rest := by
  obtain ⟨n0, n1⟩ := hx.nl hk
  unfold breaksP rbreaksP
  rw [top_norm, rfits0 w rest _ hr h0]
  show (if x.n = 3 then true else if x.n = 0 then (topOf s).long else if x.n = 2 then ((topOf s).long && (topOf s).miser) else (!fitsP w rest 0 s.at_) || ((topOf s).lines != s.lines) || ((topOf s).long && (topOf s).miser)) = _
  rcases (show x.n = 0 ∨ x.n = 1 ∨ x.n = 2 ∨ x.n = 3 by omega) with e | e | e | e <;> rw [e] <;> simp

theorem rbroken_at (s : St) (_ : 0 ≤ s.at_) : (rbrokenP s).blocks = s.blocks := by
  unfold rbrokenP
  show (rprefixesP _ _).blocks = _
  rw [rprefixes_blocks]
  rfl
theorem rprefixes_at : ∀ (l : List Bk) (s : St), 0 ≤ s.at_ → 0 ≤ (rprefixesP l s).at_
  | [], s, h => h
  | b :: r, s, h => by
    unfold rprefixesP
    split
    · exact rprefixes_at r _ (colP_bd _ _ (colP_bd _ _ h).1).1
    · exact rprefixes_at r s h
theorem rbroken_at0 (s : St) : 0 ≤ (rbrokenP s).at_ := by
  unfold rbrokenP
  refine (colP_bd _ _ (rprefixes_at _ _ ?_)).1
  show 0 ≤ colP s.at_ ⟨#[10]⟩
  rw [colP_nl]; exact Int.le_refl _

theorem norm_top (s1 s : St) (b : Bk) (h : s1.blocks = s.blocks) : ({ normS s1 with blocks := setTop (normS s1).blocks (norm b) } : St) = normS { s1 with blocks := setTop s.blocks b } := by
  unfold normS
  simp only [setTop_norm, h]

/-- The program's step is the reference's, where the text does not grow too long. -/
theorem step_same (w mi : Int) (s : St) (x : Op) (rest : List Op) (h : RInv s) (hx : Valid x) (hr : ∀ y ∈ rest, Valid y) :
    stepP w mi (normS s) x rest = if (rstepP w mi s x rest).out.length ≤ 100000 then some (normS (rstepP w mi s x rest)) else none := by
  have h0 := h.good.a0
  have hlen := h.good.len
  unfold stepP rstepP
  rcases kind_cases hx with k | k | k | k | k | k
  · simp only [k, Int.reduceEq, or_false, reduceIte]
    rw [written0 k]; rfl
  · simp only [k, Int.reduceEq, or_self, reduceIte]
    rw [breaks_same w s x rest hx k hr h0]
    cases hb : rbreaksP w s x rest
    · simp only [Bool.false_eq_true, reduceIte]
      rw [Option.bind_some, if_pos hlen]
      congr 1
      rw [top_norm, rfits0 w rest _ hr h0]
      exact norm_top s s { topOf s with lines := s.lines, slong := !fitsP w rest 0 s.at_ } rfl
    · simp only [reduceIte]
      rw [broken_same s h]
      split
      · rw [Option.bind_some]
        congr 1
        rw [top_norm, rfits0 w rest _ hr (rbroken_at0 s)]
        exact norm_top (rbrokenP s) s { topOf s with lines := (rbrokenP s).lines, slong := !fitsP w rest 0 (rbrokenP s).at_ } (rbroken_at s h0)
      · rfl
  · simp only [k, Int.reduceEq, or_self, reduceIte]
    rw [putP_norm]
    show _ = if (putRaw s x.text).out.length ≤ 100000 then _ else _
    split
    · rw [Option.bind_some]
      congr 1
      unfold rbegunP
      rw [top_norm, rfits0 w rest (putRaw s x.text).at_ hr (colP_bd _ _ h0).1]
      unfold normS
      simp only [List.map_append, List.map_cons, List.map_nil]
      rfl
    · rfl
  · simp only [k, Int.reduceEq, or_self, reduceIte]
    rw [putP_norm]
    split
    · rw [Option.bind_some]
      congr 1
      unfold normS putRaw
      simp only [List.map_dropLast]
    · rfl
  · simp only [k, Int.reduceEq, or_self, reduceIte]
    rw [top_norm]
    have hm : (norm (topOf s)).miser = (topOf s).miser := rfl
    rw [hm]
    by_cases hmm : (topOf s).miser = true
    · simp only [if_pos hmm]
      rw [if_pos hlen]
    · simp only [if_neg hmm]
      rw [if_pos hlen]
      congr 1
      exact norm_top s s { topOf s with indent := max (if x.flag = true then s.at_ + x.n else (topOf s).start + x.n) 0 } rfl
  · simp only [k, Int.reduceEq, or_true, reduceIte]
    rw [written5 k]; rfl

theorem mem_setTop2 {l : List Bk} {b c : Bk} (h : c ∈ setTop l b) : c ∈ l ∨ c = b := by
  unfold setTop at h
  rcases List.mem_append.1 h with h | h
  · exact .inl (mem_dropLast_ h)
  · exact .inr (List.mem_singleton.1 h)
theorem setTop_ne (l : List Bk) (b : Bk) : setTop l b ≠ [] := by unfold setTop; simp

/-- What a step keeps, where its text is not too long. -/
theorem rstep_inv (w mi : Int) (s : St) (x : Op) (rest : List Op) (h : RInv s) (hx : Valid x) (hr : ∀ y ∈ rest, Valid y) (ht : x.text.size ≤ 20000) (hd : 0 < deeper x ((s.blocks.length : Nat) : Int)) (hl : (rstepP w mi s x rest).out.length ≤ 100000) :
    RInv (rstepP w mi s x rest) ∧ ((rstepP w mi s x rest).blocks.length : Int) = deeper x s.blocks.length := by
  have hs := step_same w mi s x rest h hx hr
  rw [if_pos hl] at hs
  have hgn : Good (normS s) := by
    refine ⟨h.good.a0, h.good.a1, h.good.len, h.good.ln, fun b hb => ?_⟩
    obtain ⟨c, hc, rfl⟩ := List.mem_map.1 hb
    have g := h.good.bk c hc
    refine ⟨g.s0, g.s1, g.i0, g.i1, g.f0, g.f1, ?_, g.l0, g.l1⟩
    show (if c.each = true then c.pre else ⟨#[]⟩).size ≤ 20000
    split
    · exact g.pr
    · exact Nat.zero_le _
  have hnn : (normS s).blocks ≠ [] := by
    show s.blocks.map norm ≠ []
    simpa using h.ne
  obtain ⟨hg2, hd2⟩ := step_good hgn hx ht hnn hs
  have e1 : ((normS (rstepP w mi s x rest)).blocks.length : Int) = (rstepP w mi s x rest).blocks.length := by
    show (((rstepP w mi s x rest).blocks.map norm).length : Int) = _
    rw [List.length_map]
  have e2 : ((normS s).blocks.length : Int) = s.blocks.length := by
    show ((s.blocks.map norm).length : Int) = _
    rw [List.length_map]
  rw [e1, e2] at hd2
  have hpre : ∀ b ∈ (rstepP w mi s x rest).blocks, (Lib.validD b.pre.data.toList = true ∧ (b.each = true → nlB b.pre = false)) ∧ b.pre.size ≤ 20000 := by
    have old : ∀ b ∈ s.blocks, (Lib.validD b.pre.data.toList = true ∧ (b.each = true → nlB b.pre = false)) ∧ b.pre.size ≤ 20000 := fun b hb => ⟨h.pre b hb, (h.good.bk b hb).pr⟩
    have otop := old _ (topOf_mem h.ne)
    intro b hb
    unfold rstepP at hb
    rcases kind_cases hx with k | k | k | k | k | k
    all_goals simp only [k, Int.reduceEq, reduceIte] at hb
    · exact old b hb
    · rcases mem_setTop2 hb with hb | rfl
      · exact old b hb
      · exact otop
    · rcases List.mem_append.1 (show b ∈ s.blocks ++ [_] from hb) with hb | hb
      · exact old b hb
      · obtain rfl := List.mem_singleton.1 hb
        exact ⟨⟨hx.utf, fun _ => hx.one (.inl k)⟩, ht⟩
    · exact old b (mem_dropLast_ hb)
    · split at hb
      · exact old b hb
      · rcases mem_setTop2 hb with hb | rfl
        · exact old b hb
        · exact otop
    · exact old b hb
  refine ⟨⟨⟨hg2.a0, hg2.a1, hg2.len, hg2.ln, fun b hb => ?_⟩, ?_, fun b hb => (hpre b hb).1⟩, hd2⟩
  · have g := hg2.bk (norm b) (List.mem_map.2 ⟨b, hb, rfl⟩)
    exact ⟨g.s0, g.s1, g.i0, g.i1, g.f0, g.f1, (hpre b hb).2, g.l0, g.l1⟩
  · intro e
    rw [e] at hd2
    simp at hd2
    omega

theorem steps_same (w mi : Int) : ∀ (l : List Op) (s : St), RInv s → (∀ x ∈ l, Valid x ∧ x.text.size ≤ 20000) → checkGo l ((s.blocks.length : Int) - 1) = 0 → stepsP w mi l (normS s) = (rstepsP w mi l s).map normS
  | [], s, _, _, _ => rfl
  | x :: r, s, h, hv, hg => by
    obtain ⟨hx, ht⟩ := hv x (by simp)
    have hr : ∀ y ∈ r, Valid y ∧ y.text.size ≤ 20000 := fun y hy => hv y (by simp [hy])
    rw [checkGo_cons] at hg
    have hg2 : 0 ≤ deeper x ((s.blocks.length : Int) - 1) ∧ checkGo r (deeper x ((s.blocks.length : Int) - 1)) = 0 := by
      split at hg
      · rename_i hne; exact absurd hg hne
      · split at hg
        · exact absurd hg (by decide)
        · rename_i _ h2; exact ⟨by omega, hg⟩
    obtain ⟨hd, hg3⟩ := hg2
    have ed : deeper x ((s.blocks.length : Int) - 1) = deeper x (s.blocks.length : Int) - 1 := by
      unfold deeper
      split
      · omega
      · split <;> omega
    unfold stepsP rstepsP
    rw [step_same w mi s x r h hx (fun y hy => (hr y hy).1)]
    split
    · rename_i hl
      obtain ⟨h2, hlen⟩ := rstep_inv w mi s x r h hx (fun y hy => (hr y hy).1) ht (by omega) hl
      rw [Option.bind_some]
      exact steps_same w mi r _ h2 hr (by rw [hlen, ← ed]; exact hg3)
    · rfl

/-- The reference's first block. -/
def rfirstBk (l : List Op) (w mi : Int) : Bk := { start := 0, indent := 0, front := 0, pre := ⟨#[]⟩, long := !rfitsP w l 0 (-1) 0, miser := decide (w ≤ mi), each := false, lines := 0, slong := !rfitsP w l 0 0 0 }
def rfirst (l : List Op) (w mi : Int) : St := { out := [], at_ := 0, lines := 0, blocks := [rfirstBk l w mi] }
theorem rfirst_inv (l : List Op) (w mi : Int) : RInv (rfirst l w mi) := by
  refine ⟨⟨by simp [rfirst], by simp [rfirst], by simp [rfirst], rfl, fun b hb => ?_⟩, by simp [rfirst], fun b hb => ?_⟩
  · obtain rfl := List.mem_singleton.1 hb
    refine ⟨by simp [rfirstBk], by simp [rfirstBk], by simp [rfirstBk], by simp [rfirstBk], by simp [rfirstBk], by simp [rfirstBk], Nat.zero_le _, by simp [rfirstBk], by simp [rfirstBk]⟩
  · obtain rfl := List.mem_singleton.1 hb
    exact ⟨rfl, by simp [rfirstBk]⟩
def rrenderP (l : List Op) (w mi : Int) : ByteArray × Int :=
  if checkP l ≠ 0 then (⟨#[]⟩, checkP l)
  else if w < 1 ∨ w > 200 ∨ mi < 0 ∨ mi > 200 then (⟨#[]⟩, 1)
  else match rstepsP w mi l (rfirst l w mi) with
    | none => (⟨#[]⟩, 14)
    | some s => (⟨s.out.toArray⟩, 0)
theorem first_same (l : List Op) (w mi : Int) (h : checkP l = 0) : ({ out := [], at_ := 0, lines := 0, blocks := [firstBk l w mi] } : St) = normS (rfirst l w mi) := by
  obtain ⟨hv, _, _, hg⟩ := check_fine h
  unfold normS rfirst rfirstBk firstBk
  rw [whole_same w l 0 0 hv (Int.le_refl _) (Int.le_refl _) hg, rfits_same w l 0 0 0 hv (Int.le_refl _) (Int.le_refl _)]
  rfl
/-- Render is the reference's. -/
theorem render_same (l : List Op) (w mi : Int) : rrenderP l w mi = renderP l w mi := by
  unfold rrenderP renderP
  by_cases h : checkP l ≠ 0
  · rw [if_pos h, if_pos h]
  · rw [if_neg h, if_neg h]
    have h0 : checkP l = 0 := Decidable.not_not.1 h
    obtain ⟨hv, _, hs, hg⟩ := check_fine h0
    have hst := steps_same w mi l (rfirst l w mi) (rfirst_inv l w mi) (fun x hx => ⟨hv x hx, Nat.le_trans (bytesSum_mem hx) hs⟩) hg
    rw [first_same l w mi h0, hst]
    cases rstepsP w mi l (rfirst l w mi) <;> rfl
end Go.Proofs.YtljgpcaljedhpaaDoor
