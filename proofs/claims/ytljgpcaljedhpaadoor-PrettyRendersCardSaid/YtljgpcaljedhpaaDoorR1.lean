/- ops: the reference's operations, walked. -/
import Derived.Test.YtljgpcaljedhpaaDoorY1
namespace Go.Proofs.YtljgpcaljedhpaaDoor
open Go.RowKit

theorem info77 : (Tryd.prog.info? 77).map (fun i => (i.zero, i.size, i.bytes)) = some (some (.agg #[.int .i64 0, .string ⟨#[]⟩, .int .i64 0, .int .i64 0, .bool false]), 5, 48) := by kernel_rfl

/-- What ops returns. -/
def OpsSays (l : List Op) (w : World) (e : Ending) (w' : World) : Prop :=
  ∃ v, e = .returned v ∧ w'.ownsRow w.heap.size 77 5 v l.length (opsC l) ∧ Below w.heap.size w w'

theorem rops_push {w wr wa w5 : World} {v v5 : Value} {done xs : List Op} (hbe : Below w.heap.size w wr) (ha : Below wr.heap.size wr wa) (hr : wr.ownsRow w.heap.size 77 5 v done.length (opsC done))
    (hown : w5.ownsRow w.heap.size 77 5 v5 (done.length + xs.length) (opsC done ++ opsC xs)) (hg : wa.grownBy w5 v.ownBlock) :
    w5.ownsRow w.heap.size 77 5 v5 (done ++ xs).length (opsC (done ++ xs)) ∧ Below w.heap.size w w5 := by
  have hba := hbe.trans (ha.mono hbe.size)
  refine ⟨by rw [List.length_append, opsC_append]; exact hown, hba.grown hg hba.size (fun k hk => ((own_below hr ha).lt k hk).1)⟩

set_option linter.unusedSimpArgs false in
set_option maxRecDepth 100000 in
set_option maxHeartbeats 4000000 in
theorem ops_any (A : Option Addr) (l : List Op) (cap : Nat) (w : World) (hops : OpsIn w A l) (hl : l.length ≤ 5000) (hcap : l.length ≤ cap) :
    Calls Tryd.prog 14 #[.slice A l.length cap] w fun e w' => OpsSays l w e w' := by
  obtain ⟨t26, ti0, ti1, ti2, ti3⟩ := info_parts info77
  have T0 := Lib.hid ti0
  have T1 := Lib.hid ti1
  have T2 := Lib.hid ti2
  have T3 := Lib.hid ti3
  have HO := Lib.hid hops
  clear ti0 ti1 ti2 ti3 hops
  go_enter Tryd.func14, Tryd.ntmps14
  go_wp2_with fail
  have hst : w.ownsRow w.heap.size 77 5 (.slice none 0 0) 0 (opsC []) := World.ownsRow_nil _ _ _ _
  have HST := Lib.hid hst
  clear hst
  go_loopw [3, 8] (fun v3 v8 w' => ∃ (j : Nat), v8 = .int .i64 j ∧ j ≤ l.length ∧ Hid (w'.ownsRow w.heap.size 77 5 v3 (l.take j).length (opsC (l.take j))) ∧ Hid (Below w.heap.size w w')) (fun _ v8 _ => l.length - (intOf v8).toNat)
  case atStart => exact ⟨0, rfl, Nat.zero_le _, HST, Lib.hid (Below.refl _ _)⟩
  case round =>
    obtain ⟨j, rfl, hj, HR, HBE⟩ := hrel
    by_cases hlt : j < l.length
    · obtain ⟨⟨k, t, n, m, f⟩, hx⟩ : ∃ x, l[j]? = some x := ⟨_, List.getElem?_eq_getElem hlt⟩
      obtain ⟨ad, rfl, ho, _⟩ := (HO.out.below HBE.out) (by rintro rfl; simp at hlt)
      obtain ⟨a0, a1, a2, a3, a4⟩ := ho j _ hx
      simp only at a0 a1 a2 a3 a4
      have htk : l.take (j + 1) = l.take j ++ [⟨k, t, n, m, f⟩] := by rw [List.take_add_one, hx]; rfl
      have htl : (l.take j).length ≤ 5000 := by rw [List.length_take]; omega
      have HTK := Lib.hid htk
      clear hx ho htk
      go_wp2_with (at_builtin; refine wpList_append_own _ rfl _ _ 39 rfl w.heap.size 77 t26 _ 5 48 Tryd.underlying39 T0.out T1.out T2.out T3.out rfl (by decide) _ _ _ rfl ((HR.out.alloc _).alloc _) _ 1 1 (opsC [⟨k, t, n, m, f⟩]) rfl rfl ?c1 ?c2 ?c3 ?c4 ?c5 ?_)
      case c1 =>
        intro jj u h
        rw [add_plain]
        try rw [Nat.zero_add]
        exact (blk_cell (show ((wr.alloc _).alloc (.cells #[.int .i64 k, .string t, .int .i64 n, .int .i64 m, .bool f] 77)).heap[wr.heap.size + 1]? = _ by have := heap_alloc_new (wr.alloc (.cells #[.int .i64 k, .string t, .int .i64 n, .int .i64 m, .bool f] 26)) (.cells #[.int .i64 k, .string t, .int .i64 n, .int .i64 m, .bool f] 77); simpa using this) jj).trans (by simpa [opsC, opC] using h)
      case c2 => intro u hu; simp [opsC, opC] at hu; rcases hu with rfl | rfl | rfl | rfl | rfl <;> rfl
      case c3 => unfold maxLen; omega
      case c4 => omega
      case c5 => have := HBE.out.size; first | omega | (simp; omega)
      intro v5 w5 hown5 hgrow5 _
      obtain ⟨hr5, hb5⟩ := rops_push (xs := [⟨k, t, n, m, f⟩]) HBE.out (chain (new1 _ _) (new1 _ _)) HR.out (by rw [List.length_take, Nat.min_eq_left (by omega)]; exact hown5) hgrow5
      rw [← HTK.out] at hr5
      have HR5 := Lib.hid hr5
      have HB5 := Lib.hid hb5
      clear hr5 hb5 hown5 hgrow5
      go_wp2_with fail
      go_roundw
      case rel => exact ⟨j + 1, by go_num, by omega, HR5, HB5⟩
      case measure => (first | omega | (simp [intOf]; omega))
    · obtain rfl : j = l.length := by omega
      have hR := HR.out
      rw [List.take_length] at hR
      have HR := Lib.hid hR
      clear hR
      go_wp2_with fail
      go_ret
      exact ⟨_, rfl, HR.out, HBE.out⟩
end Go.Proofs.YtljgpcaljedhpaaDoor
