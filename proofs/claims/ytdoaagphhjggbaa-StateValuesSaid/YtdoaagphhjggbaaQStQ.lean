/- States in plain Lean, more of them. -/
import Derived.Test.YtdoaagphhjggbaaQStP
namespace Go.St
open Go Go.Sx

theorem trim_congr {n n' w : Int} (h : n % 2 ^ wid w = n' % 2 ^ wid w) : trim n w = trim n' w := by
  unfold trim; rw [h]

theorem trim_trim (n w : Int) : trim (trim n w) w = trim n w := by
  refine trim_congr ?_
  have h2 := pow_le (wid w) (wid_pos w).2
  have h3 := Int.emod_nonneg n (b := 2 ^ wid w) (by omega)
  have h4 := Int.emod_lt_of_pos n (b := 2 ^ wid w) (by omega)
  unfold trim
  split
  · rw [Int.sub_emod_right]; exact Int.emod_eq_of_lt h3 h4
  · exact Int.emod_eq_of_lt h3 h4

theorem held_fits {m : Md} (hm : MOk m) (l : List Int) : fitsB m (heldF m l) = true := by
  refine (fitsB_iff m _).2 ⟨⟨by simp [heldF], by simp [heldF], by simp [heldF], by simp [heldF], by simp only [heldF]; omega⟩, fun i hi => ?_, fun i hi => ?_, fun i hi => ?_⟩
  · have hi' : i < m.procs.length := by simpa [heldF] using hi
    have hp := hm.place _ (getD_mem m.procs i Pr.none hi')
    unfold fitsA
    rw [heldF, getD_range _ _ _ _ hi']
    exact partN_bound _ _ _ (by omega)
  · have hi' : i < m.vars.length := by simpa [heldF] using hi
    unfold fitsV
    rw [heldF, getD_range _ _ _ _ hi']
    exact trim_trim _ _
  · have hi' : i < m.chans.length := by simpa [heldF] using hi
    have hc := hm.chan _ (getD_mem m.chans i Ch.none hi')
    have hb := partN_bound l (kAt m l i) ((m.chans.getD i Ch.none).room + 1) (by omega)
    have hg : (heldF m l).chans.getD i [] = (List.range (nAt m l i)).map fun q => msgAt m l i q := by rw [heldF, getD_range _ _ _ _ hi']
    have hlen : ((heldF m l).chans.getD i []).length = nAt m l i := by rw [hg]; simp
    refine ⟨?_, fun k hk => ?_⟩
    · unfold fitsL
      rw [hlen]; unfold nAt; omega
    · rw [hlen] at hk
      unfold fitsC
      rw [hg, getD_range _ _ _ _ hk]
      exact trim_trim _ _

theorem held_ssz {m : Md} (hm : MOk m) (l : List Int) : SSz (heldF m l) := by
  have h := hm.sz
  refine ⟨by simp [heldF]; omega, by simp [heldF]; omega, by simp [heldF]; omega, fun c hc => ?_⟩
  obtain ⟨i, hi, rfl⟩ := List.mem_iff_getElem.1 hc
  have hi' : i < m.chans.length := by simpa [heldF] using hi
  have hc := hm.chan _ (getD_mem m.chans i Ch.none hi')
  have hb := partN_bound l (kAt m l i) ((m.chans.getD i Ch.none).room + 1) (by omega)
  simp only [heldF, List.getElem_map, List.getElem_range, List.length_map, List.length_range]
  unfold nAt; omega

end Go.St
