/- made, as a plain function; rows of operations that are owned. -/
import Derived.Test.YtljgpcaljedhpaaDoorX7
namespace Go.Proofs.YtljgpcaljedhpaaDoor
open Go.RowKit

def text6 : Nat → ByteArray
  | 0 => ⟨#[97]⟩ | 1 => ⟨#[98, 98]⟩ | 2 => ⟨#[99, 99, 99]⟩ | 3 => ⟨#[195, 169]⟩ | 4 => ⟨#[32]⟩ | _ => ⟨#[100, 100, 100, 100, 32]⟩
def openT : Nat → ByteArray
  | 0 => ⟨#[40]⟩ | 1 => ⟨#[]⟩ | _ => ⟨#[91, 91]⟩
def closeT : Nat → ByteArray
  | 0 => ⟨#[41]⟩ | 1 => ⟨#[]⟩ | _ => ⟨#[93, 93]⟩
def textO (t : ByteArray) : Op := ⟨0, t, 0, 0, false⟩
def newlineO (n : Int) : Op := ⟨1, ⟨#[]⟩, n, 0, false⟩
def openO (t : ByteArray) : Op := ⟨2, t, 0, 0, false⟩
def closeO (t : ByteArray) : Op := ⟨3, t, 0, 0, false⟩
def indentO (n : Int) (f : Bool) : Op := ⟨4, ⟨#[]⟩, n, 0, f⟩
def tabO (n m : Int) (f : Bool) : Op := ⟨5, ⟨#[]⟩, n, m, f⟩

def madeOne (a b d : Nat) : List Op × Nat :=
  if a % 8 = 0 ∨ a % 8 = 1 then ([textO (text6 (b % 6))], d)
  else if a % 8 = 2 ∨ a % 8 = 3 then ([textO ⟨#[32]⟩, newlineO ((b % 3 : Nat) : Int)], d)
  else if a % 8 = 4 then ([openO (openT (b % 3))], d + 1)
  else if a % 8 = 5 then (if 0 < d then ([closeO (closeT (b % 3))], d - 1) else ([], d))
  else if a % 8 = 6 then ([indentO (((b % 9 : Nat) : Int) - 2) (decide (b % 2 = 0))], d)
  else ([tabO ((b % 7 : Nat) : Int) ((b / 7 % 4 : Nat) : Int) (decide (b % 2 = 0))], d)

def madeGo : List (Nat × Nat) → Nat → List Op
  | [], d => List.replicate d (closeO ⟨#[41]⟩)
  | x :: r, d => (madeOne x.1 x.2 d).1 ++ madeGo r (madeOne x.1 x.2 d).2

/-- An operation's cells. -/
def opC (x : Op) : List Value := [.int .i64 x.kind, .string x.text, .int .i64 x.n, .int .i64 x.m, .bool x.flag]
def opsC (l : List Op) : List Value := l.flatMap opC

theorem opsC_len (l : List Op) : (opsC l).length = l.length * 5 := by
  unfold opsC
  induction l with
  | nil => rfl
  | cons x l ih => rw [List.flatMap_cons, List.length_append, ih]; simp [opC]; omega
theorem opsC_get (l : List Op) : ∀ (i : Nat) (x : Op), l[i]? = some x → ∀ k, k < 5 → (opsC l)[i * 5 + k]? = (opC x)[k]? := by
  induction l with
  | nil => intro i x h; simp at h
  | cons y l ih =>
    intro i x h k hk
    unfold opsC
    rw [List.flatMap_cons]
    cases i with
    | zero =>
      obtain rfl : y = x := by simpa using h
      rw [List.getElem?_append_left (by simp [opC]; omega), Nat.zero_mul, Nat.zero_add]
    | succ i =>
      rw [List.getElem?_append_right (by simp [opC]; omega)]
      rw [show (i + 1) * 5 + k - (opC y).length = i * 5 + k by simp [opC]; omega]
      exact ih i x (by simpa using h) k hk
theorem opsC_append (l r : List Op) : opsC (l ++ r) = opsC l ++ opsC r := by unfold opsC; exact List.flatMap_append

/-- A row of operations that is owned, read as the argument of a call. -/
theorem own_ops {w : World} {base : Nat} {l : List Op} {A : Option Addr} {n c : Nat} (h : w.ownsRow base 26 5 (.slice A n c) l.length (opsC l)) : n = l.length ∧ l.length ≤ c ∧ OpsIn w A l := by
  rcases h.2 with ⟨hv, hn⟩ | ⟨g, cap, cur, hv, hg, hh, hle, hm, hs, ht⟩
  · injection hv with h1 h2 h3
    subst h1; subst h2; subst h3
    have : l = [] := List.eq_nil_of_length_eq_zero hn
    subst this
    exact ⟨rfl, Nat.le_refl _, fun hne => absurd rfl hne⟩
  · have hc := h.cells (g := g) (by rw [hv]; rfl)
    injection hv with h1 h2 h3
    subst h1; subst h2; subst h3
    refine ⟨rfl, hle, fun _ => ⟨_, rfl, fun i x hx => ?_, blk_lt hh⟩⟩
    have hk : ∀ k, k < 5 → w.cell? ⟨g, i * 5 + k, none⟩ = (opC x)[k]? := fun k hk => by
      have e := opsC_get l i x hx k hk
      obtain ⟨u, hu⟩ : ∃ u, (opC x)[k]? = some u := ⟨_, List.getElem?_eq_getElem (by simp [opC]; omega)⟩
      have := hc (i * 5 + k) u (e.trans hu)
      rw [add_plain] at this
      rw [hu]
      simpa using this
    rw [add_plain]
    refine ⟨?_, ?_, ?_, ?_, ?_⟩
    · have := hk 0 (by decide); simpa [opC] using this
    · have := hk 1 (by decide); simpa [opC] using this
    · have := hk 2 (by decide); simpa [opC] using this
    · have := hk 3 (by decide); simpa [opC] using this
    · have := hk 4 (by decide); simpa [opC] using this

theorem info26 : (Tryd.prog.info? 26).map (fun i => (i.zero, i.size, i.bytes)) = some (some (.agg #[.int .i64 0, .string ⟨#[]⟩, .int .i64 0, .int .i64 0, .bool false]), 5, 48) := by kernel_rfl

/-- The cells of a slice of pairs of bytes. -/
def PairsAt (w : World) (ad : Addr) (l : List (Nat × Nat)) : Prop :=
  ∀ (i : Nat) (x : Nat × Nat), l[i]? = some x → w.cell? (ad.add (i * 2)) = some (.int .u8 x.1) ∧ w.cell? ⟨(ad.add (i * 2)).block, (ad.add (i * 2)).off + 1, none⟩ = some (.int .u8 x.2)
def PairsIn (w : World) (A : Option Addr) (l : List (Nat × Nat)) : Prop := l ≠ [] → ∃ ad, A = some ad ∧ PairsAt w ad l ∧ ad.block < w.heap.size
theorem PairsIn.below {w w' : World} {A : Option Addr} {l : List (Nat × Nat)} (h : PairsIn w A l) (hb : Below w.heap.size w w') : PairsIn w' A l := fun hne => by
  obtain ⟨ad, e, h1, h2⟩ := h hne
  refine ⟨ad, e, fun i x hx => ?_, Nat.lt_of_lt_of_le h2 hb.size⟩
  obtain ⟨k0, k1⟩ := h1 i x hx
  have e : (ad.add (i * 2)).block < w.heap.size := by rw [block_of_add]; exact h2
  exact ⟨(hb.cell e).trans k0, (hb.cell (p := ⟨_, _, none⟩) e).trans k1⟩
end Go.Proofs.YtljgpcaljedhpaaDoor
