/- Contract: the number that 1 to 6 digits are, rune by rune. -/
import Derived.Test.YtcfllgdfhfcicaaDoorQClN
import Derived.Test.YtcfllgdfhfcicaaDoorQ2
import Derived.Test.YtcfllgdfhfcicaaDoorQMdl
import Derived.Test.YtcfllgdfhfcicaaDoorQStP
import Derived.Test.YtcfllgdfhfcicaaDoorChecked
import Derived.Laws.RangeString
import Derived.Laws.RangeAny
import Derived.LoopTactic
set_option linter.unusedSimpArgs false
set_option linter.unusedVariables false
namespace Go.Proofs.YtcfllgdfhfcicaaDoor
open Go Go.Sx Go.RowKit Go.Sp Go.St
set_option maxRecDepth 100000

theorem numP_at {l : List UInt8} (h0 : 0 < l.length) (h6 : l.length ≤ 6) (h : l.all digB = true) : numP l = (valD l, true) := if_pos ⟨h0, h6, h⟩
theorem numP_no {l : List UInt8} {i : Nat} (hi : i < l.length) (h : digB (l.getD i 0) = false) : numP l = (0, false) := if_neg fun k => by
  have := List.all_eq_true.1 k.2.2 _ (getD_mem l i 0 hi)
  rw [h] at this; cases this
theorem numP_len {l : List UInt8} (h : l.length < 1 ∨ 6 < l.length) : numP l = (0, false) := if_neg fun k => by omega

set_option maxHeartbeats 4000000 in
theorem number_raw (s : ByteArray) (w : World) : Calls Tryd.prog 47 #[.string s] w fun e w' => e = .returned (.tuple #[.int .i64 (numP s.data.toList).1, .bool (numP s.data.toList).2]) ∧ (w' = w ∨ ∃ pos, w' = w.iter s pos) := by
  go_enter Tryd.func47, Tryd.ntmps47
  have hsz : s.data.toList.length = s.size := (Lib.size_eq s).symm
  go_wp2
  · go_ret2
    refine ⟨?_, .inl rfl⟩
    rw [numP_len (by omega)]
    rfl
  · go_loopw [4] (fun n w' => ∃ (pos : Nat), w' = w.iter s pos ∧ n = .int .i64 (valD (s.data.toList.take pos)) ∧ pos ≤ s.size ∧ (s.data.toList.take pos).all digB = true) (fun _ w' => s.size - w'.iterPos w.heap.size)
    case atStart => exact ⟨0, rfl, rfl, Nat.zero_le _, rfl⟩
    case round =>
      obtain ⟨pos, rfl, rfl, hp0, hall⟩ := hrel
      by_cases hp : pos < s.size
      · have hnx : ∀ ty, (Instr.next (.pointer (some ⟨w.heap.size, 0, none⟩)) true ty).run Tryd.prog (w.iter s pos) = _ := fun ty => run_next_any w s pos ty hp
        rcases dec_shape s pos with ⟨h1, h2⟩ | ⟨h1, hb⟩
        · rw [h2] at hnx
          clear h2
          have hdg : digB (s.data.toList.getD pos 0) = decide (48 ≤ (s.data.toList.getD pos 0).toNat ∧ (s.data.toList.getD pos 0).toNat ≤ 57) := rfl
          have hnv := valD_next s.data.toList pos (by omega)
          have hna : (s.data.toList.take (pos + 1)).all digB = digB (s.data.toList.getD pos 0) := by
            rw [List.take_add_one, List.getElem?_eq_getElem (by omega), List.all_append, hall, List.getD_eq_getElem?_getD, List.getElem?_eq_getElem (by omega)]
            simp
          have hv := valD_le _ hall
          have hpw : (10 : Int) ^ (s.data.toList.take pos).length ≤ 1000000 := pow_six _ (by rw [List.length_take]; omega)
          have hno : digB (s.data.toList.getD pos 0) = false → numP s.data.toList = (0, false) := numP_no (by omega)
          generalize hv1 : valD (s.data.toList.take (pos + 1)) = v1 at hnv
          generalize digB (s.data.toList.getD pos 0) = dg at hdg hna hno
          generalize (s.data.toList.getD pos 0).toNat = c at hnx h1 hdg hnv
          dsimp only at hnx
          go_wp2
          · go_ret2
            refine ⟨?_, .inr ⟨_, rfl⟩⟩
            rw [hno (hdg.trans (decide_eq_false (by omega)))]
            rfl
          · refine ⟨⟨pos + 1, rfl, ?_, by omega, hna.trans (hdg.trans (decide_eq_true (by omega)))⟩, ?_⟩
            · rw [hv1, hnv]
            · simp
              omega
          · go_ret2
            refine ⟨?_, .inr ⟨_, rfl⟩⟩
            rw [hno (hdg.trans (decide_eq_false (by omega)))]
            rfl
        · have hw := Lib.width_pos s pos
          have hno : digB (s.data.toList.getD pos 0) = false := decide_eq_false (by have := hb 0 hw; rw [Nat.add_zero] at this; omega)
          generalize Utf8.decode s pos = q at hnx h1 hw
          obtain ⟨q1, q2⟩ := q
          dsimp only at hnx h1 hw
          go_wp2
          all_goals first
            | (exfalso; omega)
            | (go_ret2
               refine ⟨?_, .inr ⟨_, rfl⟩⟩
               rw [numP_no (i := pos) (by omega) hno]
               rfl)
      · have hnx : ∀ ty, (Instr.next (.pointer (some ⟨w.heap.size, 0, none⟩)) true ty).run Tryd.prog (w.iter s pos) = _ := fun ty => run_next_end w s pos ty hp
        obtain rfl : pos = s.size := by omega
        go_wp2
        go_ret2
        refine ⟨?_, .inr ⟨_, rfl⟩⟩
        rw [← hsz, List.take_length] at hall
        rw [numP_at (by omega) (by omega) hall, ← hsz, List.take_length]
        rfl
  · go_ret2
    refine ⟨?_, .inl rfl⟩
    rw [numP_len (by omega)]
    rfl

end Go.Proofs.YtcfllgdfhfcicaaDoor
