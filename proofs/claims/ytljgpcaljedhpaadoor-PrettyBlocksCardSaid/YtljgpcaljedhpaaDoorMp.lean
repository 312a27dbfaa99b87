/- The map that PrettyBlocks makes and reads. -/
import Derived.Maps.Keyed
import Derived.WalkKit
import Derived.Test.YtljgpcaljedhpaaDoorX7
namespace Go.Proofs.YtljgpcaljedhpaaDoor
open Go Go.Maps Go.ChangeMaps

theorem key_int (n : Int) (h : (Lit.int .i64 n).wf = true) : keyOf Tryd.prog 3 (.int .i64 n) = some (.int .i64 n) := by
  simp [keyOf, mapKey, Tryd.underlying3, h]

set_option maxRecDepth 100000 in
theorem map_put (w : World) (es : Array MapEntry) (c : Nat) (key : Int) (v : Value) (hw : (Lit.int .i64 key).wf = true) (hk : ∀ e ∈ es.toList, ∃ l, keyOf Tryd.prog 3 e.key = some l) (hno : ∀ e ∈ es.toList, e.key ≠ .int .i64 key) :
    (Instr.mapUpdate 31 (.map (some w.heap.size)) (.int .i64 key) v).run Tryd.prog (w.alloc (.map es c)) = .ok () (w.alloc (.map (es.push { key := .int .i64 key, val := v, born := c }) (c + 1))) := by
  have K : Keyed Tryd.prog 3 := int_keyed Tryd.underlying3
  have hkey := key_int key hw
  have hb : (w.alloc (.map es c)).heap[w.heap.size]? = some (.map es c) := heap_alloc_new w _
  rcases K.find (w.alloc (.map es c)) hkey es.toList hk with ⟨h1, _⟩ | ⟨j, e, _, h2, h3⟩
  · simp [Instr.mapUpdate, run_underlying Tryd.underlying31, MapKept.run_getObj_map hb, K.check _ false hkey, h1, MapKept.run_setObj_map _ hb, Result.andThen]
    unfold World.alloc
    congr 1
    apply Array.ext
    · simp
    · intro i h1 h2
      simp at h1 h2
      by_cases hi : i = w.heap.size
      · subst hi
        simp
      · rw [Array.getElem_setIfInBounds_ne (by simpa using h1) (fun e => hi e.symm), Array.getElem_push_lt (by omega), Array.getElem_push_lt (by omega)]
  · exact absurd h3 (hno e (List.mem_of_getElem? h2))

/-- The three entries. -/
def mapE (b0 b2 : Bool) : Array MapEntry := #[{ key := .int .i64 0, val := .bool b0, born := 0 }, { key := .int .i64 2, val := .bool b2, born := 1 }, { key := .int .i64 3, val := .bool true, born := 2 }]
theorem map1 (w : World) (b0 : Bool) : (Instr.mapUpdate 31 (.map (some w.heap.size)) (.int .i64 0) (.bool b0)).run Tryd.prog (w.alloc (.map #[] 0)) = .ok () (w.alloc (.map #[{ key := .int .i64 0, val := .bool b0, born := 0 }] 1)) :=
  map_put w #[] 0 0 (.bool b0) (by decide) (fun e he => by simp at he) (fun e he => by simp at he)
theorem map2 (w : World) (b0 b2 : Bool) : (Instr.mapUpdate 31 (.map (some w.heap.size)) (.int .i64 2) (.bool b2)).run Tryd.prog (w.alloc (.map #[{ key := .int .i64 0, val := .bool b0, born := 0 }] 1)) = .ok () (w.alloc (.map #[{ key := .int .i64 0, val := .bool b0, born := 0 }, { key := .int .i64 2, val := .bool b2, born := 1 }] 2)) :=
  map_put w _ 1 2 (.bool b2) (by decide) (fun e he => by
    obtain rfl : e = _ := by simpa using he
    exact ⟨_, key_int 0 (by decide)⟩) (fun e he => by
    obtain rfl : e = _ := by simpa using he
    simp)
theorem map3 (w : World) (b0 b2 : Bool) : (Instr.mapUpdate 31 (.map (some w.heap.size)) (.int .i64 3) (.bool true)).run Tryd.prog (w.alloc (.map #[{ key := .int .i64 0, val := .bool b0, born := 0 }, { key := .int .i64 2, val := .bool b2, born := 1 }] 2)) = .ok () (w.alloc (.map (mapE b0 b2) 3)) :=
  map_put w _ 2 3 (.bool true) (by decide) (fun e he => by
    have : e = { key := .int .i64 0, val := .bool b0, born := 0 } ∨ e = { key := .int .i64 2, val := .bool b2, born := 1 } := by simpa using he
    rcases this with rfl | rfl
    · exact ⟨_, key_int 0 (by decide)⟩
    · exact ⟨_, key_int 2 (by decide)⟩) (fun e he => by
    have : e = { key := .int .i64 0, val := .bool b0, born := 0 } ∨ e = { key := .int .i64 2, val := .bool b2, born := 1 } := by simpa using he
    rcases this with rfl | rfl <;> simp)
def mapGet (b0 b2 : Bool) (kind : Nat) : Bool := if kind = 0 then b0 else if kind = 2 then b2 else decide (kind = 3)
set_option maxRecDepth 100000 in
theorem map_get (w : World) (b0 b2 : Bool) (kind : Nat) (hk : kind < 4) : (Instr.lookup 31 (.map (some w.heap.size)) (.int .i64 (kind : Int)) false).run Tryd.prog (w.alloc (.map (mapE b0 b2) 3)) = .ok (.bool (mapGet b0 b2 kind)) (w.alloc (.map (mapE b0 b2) 3)) := by
  have K : Keyed Tryd.prog 3 := int_keyed Tryd.underlying3
  have hkey : keyOf Tryd.prog 3 (.int .i64 (kind : Int)) = some (.int .i64 (kind : Int)) := key_int kind (by simp [Lit.wf, IntKind.min, IntKind.max, IntKind.signed, IntKind.bits]; omega)
  have hb : (w.alloc (.map (mapE b0 b2) 3)).heap[w.heap.size]? = some (.map (mapE b0 b2) 3) := heap_alloc_new w _
  have hz : (zeroValue 4).run Tryd.prog (w.alloc (.map (mapE b0 b2) 3)) = .ok (.bool false) (w.alloc (.map (mapE b0 b2) 3)) := rfl
  have hmem : ∀ e, e ∈ (mapE b0 b2).toList → e = { key := .int .i64 0, val := .bool b0, born := 0 } ∨ e = { key := .int .i64 2, val := .bool b2, born := 1 } ∨ e = { key := .int .i64 3, val := .bool true, born := 2 } := fun e he => by simpa [mapE] using he
  rcases K.find (w.alloc (.map (mapE b0 b2) 3)) hkey (mapE b0 b2).toList (fun e he => by
    rcases hmem e he with rfl | rfl | rfl
    · exact ⟨_, key_int 0 (by decide)⟩
    · exact ⟨_, key_int 2 (by decide)⟩
    · exact ⟨_, key_int 3 (by decide)⟩) with ⟨h1, h2⟩ | ⟨j, e, h1, h2, h3⟩
  · have h0 := h2 { key := .int .i64 0, val := .bool b0, born := 0 } (by simp [mapE])
    have h02 := h2 { key := .int .i64 2, val := .bool b2, born := 1 } (by simp [mapE])
    have h03 := h2 { key := .int .i64 3, val := .bool true, born := 2 } (by simp [mapE])
    simp at h0 h02 h03
    have hg : mapGet b0 b2 kind = false := by
      unfold mapGet
      rw [if_neg (by omega), if_neg (by omega)]
      exact decide_eq_false (by omega)
    rw [hg]
    simp [Instr.lookup, run_underlying Tryd.underlying31, MapKept.run_getObj_map hb, K.check _ _ hkey, h1, hz, Result.andThen]
  · have hv : e.val = .bool (mapGet b0 b2 kind) := by
      rcases hmem e (List.mem_of_getElem? h2) with rfl | rfl | rfl
      · have : kind = 0 := by simp at h3; omega
        subst this; rfl
      · have : kind = 2 := by simp at h3; omega
        subst this; rfl
      · have : kind = 3 := by simp at h3; omega
        subst this; rfl
    rw [← hv]
    simp [Instr.lookup, run_underlying Tryd.underlying31, MapKept.run_getObj_map hb, K.check _ _ hkey, h1, Result.andThen]
end Go.Proofs.YtljgpcaljedhpaaDoor
