/- (*strings.Builder).WriteString of a builder of the call's own, whose buffer begins anywhere in its block. -/
import Derived.Test.YtcfllgdfhfcicaaDoorQ3
import Derived.Test.YtcfllgdfhfcicaaDoorChecked
set_option linter.unusedSimpArgs false
set_option linter.unusedVariables false
namespace Go.Proofs.YtcfllgdfhfcicaaDoor
open Go Go.RowKit Go.Lib Go.Sx

theorem sizeBld : (Tryd.prog.info? 54).map (·.size) = some 2 := by kernel_rfl
theorem ptrBld : Tryd.prog.underlying 51 = some (.pointer 54) := by kernel_rfl
theorem unsBld : Tryd.prog.underlying 88 = some .unsafePointer := by kernel_rfl
theorem infoU8 : (Tryd.prog.info? 5).map (fun i => (i.zero, i.size, i.bytes)) = some (some (.int .u8 0), 1, 1) := by kernel_rfl
theorem liesBld : liesAt Tryd.prog Tryd.prog.depth 54 (2 / Tryd.prog.cellsOf 54) 0 54 1 = true := by kernel_rfl

set_option maxHeartbeats 1000000 in
set_option maxRecDepth 100000 in
theorem copy_used (b : Nat) (w : World) (h0 : w.cell? ⟨b, 0, none⟩ = some (.pointer (some ⟨b, 0, none⟩))) :
    Calls Tryd.prog 56 #[.pointer (some ⟨b, 0, none⟩)] w fun e w' => e = .returned (.tuple #[]) ∧ w' = w := by
  obtain ⟨j, hj, _⟩ := Option.map_eq_some_iff.1 sizeBld
  go_enter Tryd.func56, Tryd.ntmps56
  go_wp2
  rw [Lib.run_neq_ptr_same w _ ptrBld hj]
  go_wp2
  go_end0
  exact ⟨rfl, rfl⟩

set_option maxHeartbeats 1000000 in
set_option maxRecDepth 100000 in
theorem copy_fresh (b : Nat) (w : World) (h0 : w.cell? ⟨b, 0, none⟩ = some (.pointer none)) (hsh : w.shape? b = some (54, 2)) (hfz : w.frozen? ⟨b, 0, none⟩ = false) :
    Calls Tryd.prog 56 #[.pointer (some ⟨b, 0, none⟩)] w fun e w' => e = .returned (.tuple #[]) ∧ w' = w.setCell ⟨b, 0, none⟩ (.pointer (some ⟨b, 0, none⟩)) := by
  obtain ⟨j, hj, hjs⟩ := Option.map_eq_some_iff.1 sizeBld
  go_enter Tryd.func56, Tryd.ntmps56
  go_wp2
  rw [Lib.run_to_unsafe w ⟨b, 0, none⟩ ptrBld unsBld hj (by rw [hjs]; decide) hsh (Nat.zero_lt_succ 1)]
  simp only [Result.andThen]
  rw [Oper.upon_value]
  go_wp2
  rw [run_callFunc_extern Tryd.func73 (by kernel_rfl) (by kernel_rfl) (by kernel_rfl) (e := Extern.AbiNoEscape.same) (by kernel_rfl)]
  rw [Lib.run_noEscape]
  simp only [Result.andThen]
  rw [Oper.upon_value]
  go_wp2
  rw [Lib.run_from_unsafe w ⟨b, 0, none⟩ unsBld ptrBld hj hsh liesBld]
  simp only [Result.andThen]
  rw [Oper.upon_value]
  go_wp2
  go_end0
  exact ⟨rfl, rfl⟩

theorem copy_check (b : Nat) (used : Bool) (v : Value) (w : World) (hbk : w.heap[b]? = some (.cells #[.pointer (bif used then some ⟨b, 0, none⟩ else none), v] 54 (0, 0))) :
    Calls Tryd.prog 56 #[.pointer (some ⟨b, 0, none⟩)] w fun e w' => e = .returned (.tuple #[]) ∧ w' = bif used then w else w.setCell ⟨b, 0, none⟩ (.pointer (some ⟨b, 0, none⟩)) := by
  have hc : w.cell? ⟨b, 0, none⟩ = some (.pointer (bif used then some ⟨b, 0, none⟩ else none)) := by rw [Lib.cell_of_heap hbk]; rfl
  cases used
  · exact copy_fresh b w hc (by simp [World.shape?, hbk]) (Lib.frozen_of_heap hbk 0)
  · exact copy_used b w hc

set_option maxHeartbeats 2000000 in
set_option maxRecDepth 100000 in
theorem bld_write (b : Nat) (used : Bool) (v : Value) (n : Nat) (xs : List Value) (s : ByteArray) (w : World)
    (hbk : w.heap[b]? = some (.cells #[.pointer (bif used then some ⟨b, 0, none⟩ else none), v] 54 (0, 0))) (hown : Owns w 5 1 v n xs) (hne : v.ownBlock ≠ some b) (hlen : n + s.size ≤ 140737488355328) :
    Calls Tryd.prog 42 #[.pointer (some ⟨b, 0, none⟩), .string s] w fun e w' => e = .returned (.tuple #[.int .i64 s.size, .nilIface]) ∧ AnySb.Wrote w w' b used 5 v (n + s.size) (xs ++ Lib.strCells s) := by
  obtain ⟨i0, hi, hz0, hz1, hz2⟩ := info_parts infoU8
  go_enter Tryd.func42, Tryd.ntmps42
  go_wp2_with (go_at_call 56; refine (copy_check b used v _ hbk).mono ?_)
  rintro e w1 ⟨rfl, hw1⟩
  have hb1 : w1.heap[b]? = some (.cells #[.pointer (some ⟨b, 0, none⟩), v] 54 (0, 0)) := by
    subst hw1
    cases used
    · simp only [cond_false] at hbk ⊢
      simp [World.setCell, Array.getElem?_modify, hbk]
    · exact hbk
  have hk1 : ∀ k, k ≠ b → w1.heap[k]? = w.heap[k]? := fun k hk => by
    subst hw1
    cases used
    · simp only [cond_false, World.setCell, Array.getElem?_modify]
      rw [if_neg (fun e => hk e.symm)]
    · rfl
  have hown1 : Owns w1 5 1 v n xs := hown.keep fun g hg => hk1 g (fun e => hne (by rw [hg, e]))
  have hfst : AnySb.First w w1 b used := ⟨hw1⟩
  clear hw1
  have c0 : w1.cell? ⟨b, 0, none⟩ = some (.pointer (some ⟨b, 0, none⟩)) := by rw [Lib.cell_of_heap hb1]; rfl
  have c1 : w1.cell? ⟨b, 1, none⟩ = some v := by rw [Lib.cell_of_heap hb1]; rfl
  go_wp2_with (at_builtin; refine wpList_append_str _ rfl _ _ 52 9 rfl 5 i0 (by kernel_rfl) (by kernel_rfl) hi hz0 hz1 hz2 _ _ _ rfl hown1 s rfl ?c3 ?c4 ?_)
  case c3 => unfold maxLen; omega
  case c4 => omega
  intro v' w2 hown' hgrow hat
  have hlt : b < w1.heap.size := lt_of_block hb1
  have hb2 : w2.heap[b]? = some (.cells #[.pointer (some ⟨b, 0, none⟩), v] 54 (0, 0)) := by
    rw [hgrow.block b hlt (fun e => hne e.symm)]
    exact hb1
  have d0 : w2.cell? ⟨b, 0, none⟩ = some (.pointer (some ⟨b, 0, none⟩)) := by rw [Lib.cell_of_heap hb2]; rfl
  have d1 : w2.cell? ⟨b, 1, none⟩ = some v := by rw [Lib.cell_of_heap hb2]; rfl
  have f1 : w2.frozen? ⟨b, 1, none⟩ = false := Lib.frozen_of_heap hb2 1
  obtain ⟨ao, n', cap, rfl⟩ : ∃ ao n' cap, v' = .slice ao n' cap := by
    rcases hown'.2 with ⟨hv, _⟩ | ⟨g, lo, cap, cur, hv, _⟩
    · exact ⟨_, _, _, hv⟩
    · exact ⟨_, _, _, hv⟩
  go_wp2
  go_ret2
  exact ⟨rfl, ⟨_, _, _, hfst, hgrow, hown', hat, rfl⟩⟩

end Go.Proofs.YtcfllgdfhfcicaaDoor
