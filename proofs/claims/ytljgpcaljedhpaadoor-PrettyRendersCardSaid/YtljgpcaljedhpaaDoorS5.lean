/- The reference's step, walked: laws on its memory; the kinds that leave the blocks alone. -/
import Derived.Test.YtljgpcaljedhpaaDoorS4
namespace Go.Proofs.YtljgpcaljedhpaaDoor
open Go.RowKit

theorem setCells_other {b k : Nat} (hk : k ≠ b) : ∀ (vs : List Value) (o : Nat) (w : World), (w.setCells b o vs).heap[k]? = w.heap[k]?
  | [], _, _ => rfl
  | v :: r, o, w => by
    rw [World.setCells, setCells_other hk r]
    exact Below.heap_setCell _ _ _ _ hk
theorem setCells_size {b : Nat} : ∀ (vs : List Value) (o : Nat) (w : World), (w.setCells b o vs).heap.size = w.heap.size
  | [], _, _ => rfl
  | v :: r, o, w => by
    rw [World.setCells, setCells_size r]
    simp
theorem setCells_below {B b : Nat} (hb : B ≤ b) : ∀ (vs : List Value) (o : Nat) (w0 w : World), Below B w0 w → Below B w0 (w.setCells b o vs)
  | [], _, _, _, h => h
  | v :: r, o, w0, w, h => by
    rw [World.setCells]
    exact setCells_below hb r _ _ _ (h.setCell (p := ⟨b, o, none⟩) hb v)
theorem setCells_heap {b : Nat} {t : TypeId} : ∀ (vs : List Value) (o : Nat) (w : World) (cur : Array Value), w.heap[b]? = some (.cells cur t (0, 0)) → o + vs.length ≤ cur.size →
    (w.setCells b o vs).heap[b]? = some (.cells (cur.toList.take o ++ vs ++ cur.toList.drop (o + vs.length)).toArray t (0, 0))
  | [], o, w, cur, h, _ => by
    rw [World.setCells, h]
    simp [List.take_append_drop]
  | v :: r, o, w, cur, h, hs => by
    have hs' : o + 1 + r.length ≤ cur.size := by simp at hs; omega
    rw [World.setCells, setCells_heap r (o + 1) _ (cur.setIfInBounds o v) (blk_set h o v) (by simpa using hs')]
    congr 2
    apply Array.toList_inj.1
    simp only [Array.toList_setIfInBounds]
    have ho : o < cur.toList.length := by simp at hs; simp; omega
    have e1 : (cur.toList.set o v).take (o + 1) = cur.toList.take o ++ [v] := by
      rw [List.take_add_one]
      rw [List.take_set_of_le (Nat.le_refl _), List.getElem?_set_self ho]
      rfl
    have e2 : (cur.toList.set o v).drop (o + 1 + r.length) = cur.toList.drop (o + (v :: r).length) := by
      rw [List.drop_set_of_lt (by omega)]
      congr 1
      simp; omega
    rw [e1, e2]
    simp

theorem rbC_dropLast {l : List Bk} {q : Nat} (h : l.length = q + 1) : rbC l.dropLast = (rbC l).take (q * 9) := by
  have e : l = l.dropLast ++ [l.getLast (by intro e; rw [e] at h; simp at h)] := (List.dropLast_concat_getLast _).symm
  have hl : (rbC l.dropLast).length = q * 9 := by rw [rbC_len, List.length_dropLast, h]; simp
  conv => rhs; rw [e, rbC_append]
  rw [List.take_append_of_le_length (by omega), List.take_of_length_le (by omega)]

/-- The last block is written. -/
theorem own_setLast {w : World} {base rb c : Nat} {l : List Bk} {q : Nat} (h : w.ownsRow base 83 9 (.slice (some ⟨rb, 0, none⟩) l.length c) l.length (rbC l)) (hl : l.length = q + 1) (b : Bk) :
    (w.setCells rb (q * 9) (rbkC b)).ownsRow base 83 9 (.slice (some ⟨rb, 0, none⟩) l.length c) (setTop l b).length (rbC (setTop l b)) := by
  have hlen : (setTop l b).length = l.length := by unfold setTop; simp; omega
  obtain ⟨h1, h2⟩ := h
  refine ⟨by rw [rbC_len], ?_⟩
  rcases h2 with ⟨h2, _⟩ | ⟨g, cap, cur, hv, hg, hh, hle, hm, hs, ht⟩
  · cases h2
  · injection hv with e1 e2 e3
    injection e1 with e1
    injection e1 with e1
    subst e1
    subst e3
    have hk : (rbkC b).length = 9 := rfl
    have hc9 : q * 9 + 9 ≤ cur.size := by rw [hs]; have : q + 1 ≤ c := by omega
                                          omega
    refine .inr ⟨rb, c, _, by rw [hlen], hg, setCells_heap (rbkC b) (q * 9) w cur hh (by rw [hk]; exact hc9), by omega, hm, ?_, ?_⟩
    · simp only [List.size_toArray, List.length_append, List.length_take, List.length_drop, Array.length_toList, hk]
      omega
    · simp only []
      unfold setTop
      rw [rbC_append, rbC_dropLast hl, ← ht, List.take_take]
      have e9 : min (q * 9) (l.length * 9) = q * 9 := by omega
      rw [e9]
      have hn : (l.dropLast ++ [b]).length * 9 = (cur.toList.take (q * 9) ++ rbkC b).length := by
        simp [hk]; omega
      have e : rbC [b] = rbkC b := by simp [rbC]
      rw [hn, List.take_left', e]
      rfl

theorem bks_last {w : World} {base rb c : Nat} {l : List Bk} {q : Nat} (h : w.ownsRow base 83 9 (.slice (some ⟨rb, 0, none⟩) l.length c) l.length (rbC l)) (hl : l.length = q + 1) : w.there rb (q * 9) 9 := by
  rcases h.2 with ⟨hv, _⟩ | ⟨g, cap, cur, hv, hg, hh, hle, hm, hs, ht⟩
  · cases hv
  · injection hv with e1 e2 e3
    injection e1 with e1
    injection e1 with e1
    subst e1
    intro j hj
    refine ⟨?_, blk_frozen hh _⟩
    rw [blk_cell hh]
    have : q * 9 + j < cur.size := by rw [hs]; omega
    simp [this]

theorem size83 : (Tryd.prog.info? 83).map (·.size) = some 9 := by kernel_rfl

/-- A block stored into the last place of a row. -/
theorem wpList_store_last {ops : Array Oper} {rest : List Oper} {op : Oper} {a : Act} {w : World} {Q : Exit → Act → World → Prop} (hgd : op.guard = none) (x y : Operand) (ho : op.op = .store 83 x y)
    {base rb c q : Nat} {l : List Bk} (b : Bk) (hx : a.eval x = .pointer (some ⟨rb, q * 9, none⟩)) (hy : a.eval y = .agg (rbkC b).toArray)
    (hown : w.ownsRow base 83 9 (.slice (some ⟨rb, 0, none⟩) l.length c) l.length (rbC l)) (hl : l.length = q + 1)
    (h : ∀ Z : World, Z.ownsRow base 83 9 (.slice (some ⟨rb, 0, none⟩) l.length c) (setTop l b).length (rbC (setTop l b)) → (∀ k, k ≠ rb → Z.heap[k]? = w.heap[k]?) → (∀ (w0 : World), Below base w0 w → Below base w0 Z) → wpList Tryd.prog ops Q rest (a.put op.dst undef) Z) :
    wpList Tryd.prog ops Q (op :: rest) a w := by
  have hb : base ≤ rb := (hown.lt rb rfl).1
  refine wpList_store_mid hgd 83 x y ho rb (q * 9) _ hx hy (bks_last hown hl) size83 ?_ ?_
  · simp [rbkC, Value.oneCell']
  · exact h _ (own_setLast hown hl b) (fun k hk => setCells_other hk _ _ _) (fun w0 hb0 => setCells_below hb _ _ _ _ hb0)

/-- The three blocks that step makes: its page, its result, its operation. -/
theorem three_at (w : World) (s : St) (W : Int) (sl : Value) (oc : Array Value) : 
    PgAt w W sl s (((w.alloc (.cells (pgC s W sl) 86)).alloc (.cells #[.string ⟨#[]⟩, .int .i64 0, .int .i64 0, .int .i64 0, .slice none 0 0] 86)).alloc (.cells oc 77)) ∧
    (((w.alloc (.cells (pgC s W sl) 86)).alloc (.cells #[.string ⟨#[]⟩, .int .i64 0, .int .i64 0, .int .i64 0, .slice none 0 0] 86)).alloc (.cells oc 77)).heap[w.heap.size + 1 + 1]? = some (.cells oc 77 (0, 0)) := by
  refine ⟨⟨((new1 w _).alloc (by simp) _).alloc (by simp; omega) _, ?_, ?_⟩, ?_⟩
  · rw [Below.heap_alloc _ _ _ (by simp; omega), Below.heap_alloc _ _ _ (by simp)]; exact heap_alloc_new w _
  · rw [Below.heap_alloc _ _ _ (by simp)]; exact heap_alloc2 w _ _
  · have := heap_alloc_new ((w.alloc (.cells (pgC s W sl) 86)).alloc (.cells #[.string ⟨#[]⟩, .int .i64 0, .int .i64 0, .int .i64 0, .slice none 0 0] 86)) (.cells oc 77)
    simpa using this
end Go.Proofs.YtljgpcaljedhpaaDoor
