/- Some texts of the library, one behind the other. -/
import Derived.Test.YtdoaagphhjggbaaQ22
import Derived.Test.YtdoaagphhjggbaaQ39
import Derived.Test.YtdoaagphhjggbaaQ37
import Derived.Test.YtdoaagphhjggbaaQ4
import Derived.Test.YtdoaagphhjggbaaQ2
section
/- The law StateFits: the first state, and which states fit. -/
namespace Go.Proofs.Ytdoaagphhjggbaa
open Go Go.Sx Go.RowKit Go.St
set_option maxRecDepth 100000
set_option maxHeartbeats 8000000

theorem rfirst_con (m : Md) (hm : MOk m) : Con Try.prog 19 [m.av] (firstF m).av := by
  have hsz := hm.sz
  refine con_of_exec (T := tab Try.prog) (C := {}) 300 (fun _ => rfl) Try.func19 rfl (by kernel_rfl) (by kernel_rfl) (fun c0 rdb => ?_)
  (repeat' ((conv => whnf); first | refine Ob.auto ?_ | (refine draw_nc (fun _ => rfl) (by kernel_rfl) 300 (by rfl) (by kernel_rfl) ?_) | (refine Br.intro (fun hb => ?_) (fun hb => ?_) <;> (try simp [-List.getD_eq_getElem?_getD] at hb) <;> (try (exfalso; omega))) | refine Ob.intro ?_ ?_))
  refine loop_nil 2 0 3 1 rfl rfl ?_
  ((conv => whnf); refine loop_keep (fun _ => rfl) 300 1 [1, 2, 3] [0, 1] (fun i : Nat => [(4, iv i)]) (fun i => [(2, .box 34 [.own 3 0 0 i, .nils, .nils, iv (-1)]), (3, .row [] 3 1 0 i (fun _ => [iv 0]))]) (fun i => i ≤ m.procs.length) (fun i => m.procs.length - i) (0) (by omega) subtA subtA (fun _ => rfl) (by kernel_rfl) ?_; (conv => whnf))
  intro i hi
  (repeat' ((conv => whnf); first | refine Ob.auto ?_ | (refine draw_nc (fun _ => rfl) (by kernel_rfl) 300 (by rfl) (by kernel_rfl) ?_) | (refine Br.intro (fun hb => ?_) (fun hb => ?_) <;> (try simp [-List.getD_eq_getElem?_getD] at hb) <;> (try (exfalso; omega))) | refine Ob.intro ?_ ?_))
  · ((conv => whnf); refine ⟨i + 1, by omega, ⟨subtA, subtA⟩, ⟨subtA, subtA⟩, ?_⟩; (first | omega | (dsimp only; omega) | skip))
  obtain rfl : i = m.procs.length := by omega
  clear hi hb
  refine loop_nil 2 1 3 1 rfl rfl ?_
  ((conv => whnf); refine loop_keep (fun _ => rfl) 300 2 [1, 2, 3] [0, 1, 3] (fun i : Nat => [(5, iv i)]) (fun i => [(2, .box 34 [.own 3 0 0 m.procs.length, .own 4 0 0 i, .nils, iv (-1)]), (4, .row [] 3 1 0 i (fun i => [iv (m.vars.getD i Vr.none).value]))]) (fun i => i ≤ m.vars.length) (fun i => m.vars.length - i) (0) (by omega) subtA subtA (fun _ => rfl) (by kernel_rfl) ?_; (conv => whnf))
  intro i hi
  (repeat' ((conv => whnf); first | refine Ob.auto ?_ | (refine draw_nc (fun _ => rfl) (by kernel_rfl) 300 (by rfl) (by kernel_rfl) ?_) | (refine Br.intro (fun hb => ?_) (fun hb => ?_) <;> (try simp [-List.getD_eq_getElem?_getD] at hb) <;> (try (exfalso; omega))) | refine Ob.intro ?_ ?_))
  · ((conv => whnf); refine ⟨i + 1, by omega, ⟨subtA, subtA⟩, ⟨subtA, subtA⟩, ?_⟩; (first | omega | (dsimp only; omega) | skip))
  obtain rfl : i = m.vars.length := by omega
  clear hi hb
  refine loop_nil 2 2 23 1 rfl rfl ?_
  ((conv => whnf); refine loop_keep (fun _ => rfl) 300 3 [1, 2, 3] [0, 1, 3, 4] (fun i : Nat => [(6, iv i)]) (fun i => [(2, .box 34 [.own 3 0 0 m.procs.length, .own 4 0 0 m.vars.length, .own 5 0 0 i, iv (-1)]), (5, .row [] 23 1 0 i (fun i => [.nils]))]) (fun i => i ≤ m.chans.length) (fun i => m.chans.length - i) (0) (by omega) subtA subtA (fun _ => rfl) (by kernel_rfl) ?_; (conv => whnf))
  intro i hi
  (repeat' ((conv => whnf); first | refine Ob.auto ?_ | (refine draw_nc (fun _ => rfl) (by kernel_rfl) 300 (by rfl) (by kernel_rfl) ?_) | (refine Br.intro (fun hb => ?_) (fun hb => ?_) <;> (try simp [-List.getD_eq_getElem?_getD] at hb) <;> (try (exfalso; omega))) | refine Ob.intro ?_ ?_))
  · ((conv => whnf); refine ⟨i + 1, by omega, ⟨subtA, subtA⟩, ⟨subtA, subtA⟩, ?_⟩; (first | omega | (dsimp only; omega) | skip))
  obtain rfl : i = m.chans.length := by omega
  (conv => whnf)
  refine Le.agg ⟨Le.slc (by simp [firstF]) (fun j hj => ?_), Le.slc (by simp [firstF]) (fun j hj => ?_), Le.slcL (by simp [firstF]) (fun j hj => ?_), Le.refl _, trivial⟩
  · show [iv 0] = [iv ((firstF m).at_.getD j 0)]
    rw [firstF, getD_rep _ _ _ _ hj]
  · show [iv (m.vars.getD j Vr.none).value] = [iv ((firstF m).vars.getD j 0)]
    rw [firstF, getD_map _ _ _ _ Vr.none hj]
  · show LeL [.nils] [ints ((firstF m).chans.getD j [])]
    rw [firstF, getD_rep _ _ _ _ hj]
    exact ⟨Le.nils _ _, trivial⟩

theorem fits_no_con (m : Md) (s : Stt) (h : ¬ (s.at_.length = m.procs.length ∧ s.vars.length = m.vars.length ∧ s.chans.length = m.chans.length)) : Con Try.prog 20 [m.av, s.av] (.bool (fitsB m s)) := by
  have e : fitsB m s = false := fits_no0 (by unfold fits0; omega)
  rw [e]
  refine con_of_exec (T := tab Try.prog) (C := {}) 600 (fun _ => rfl) Try.func20 rfl (by kernel_rfl) (by kernel_rfl) (fun c0 rdb => ?_)
  (repeat' ((conv => whnf); first | refine zO ?_ | refine Ob.auto ?_ | (refine draw_x (fun _ => rfl) (by kernel_rfl) 600 ?_) | (refine Br.intro (fun hb => ?_) (fun hb => ?_) <;> (try simp [-List.getD_eq_getElem?_getD] at hb) <;> (try (exfalso; omega))) | refine Ob.intro ?_ ?_))
  exact Le.refl _

theorem rfits_no_con (m : Md) (s : Stt) (h : ¬ (s.at_.length = m.procs.length ∧ s.vars.length = m.vars.length ∧ s.chans.length = m.chans.length)) : Con Try.prog 21 [m.av, s.av] (.bool (fitsB m s)) := by
  have e : fitsB m s = false := fits_no0 (by unfold fits0; omega)
  rw [e]
  refine con_of_exec (T := tab Try.prog) (C := {}) 600 (fun _ => rfl) Try.func21 rfl (by kernel_rfl) (by kernel_rfl) (fun c0 rdb => ?_)
  (repeat' ((conv => whnf); first | refine zO ?_ | refine Ob.auto ?_ | (refine draw_x (fun _ => rfl) (by kernel_rfl) 600 ?_) | (refine Br.intro (fun hb => ?_) (fun hb => ?_) <;> (try simp [-List.getD_eq_getElem?_getD] at hb) <;> (try (exfalso; omega))) | refine Ob.intro ?_ ?_))
  exact Le.refl _

theorem stateFits_con (l : List Nd) (hl : l.length ≤ 9223372036854775807) (hz : ∀ n ∈ l, NdSz n) (s : Stt) (hsc : s.chans.length ≤ 9223372036854775807) (raw : List Int) : Con Try.prog 5 [treeV l, s.av, ints raw] (.bool true) := by
  refine con_of_exec (T := tab Try.prog) (C := {wraps := [14, 15, 16, 17, 18, 19, 20, 21, 22, 23, 24, 25, 26, 27, 28, 29, 30, 31, 32, 33, 34]}) 300 (fun _ => rfl) Try.func5 rfl (by kernel_rfl) (by kernel_rfl) (fun c0 rdb => ?_)
  (repeat' ((conv => whnf); first | refine zA ?_ | refine zO ?_ | refine Ob.auto ?_ | refine zC 300 (awake14) ?_ | refine zG 300 (fun hg => awake14) ?_ | (refine CallY.con (awake14) (by rfl) leA ?_) | (refine CallZ.con (fun hg => awake14) rflsA (by rfl) ?_) | refine zC 300 (made_con l hl hz) ?_ | refine zG 300 (fun hg => made_con l hl hz) ?_ | (refine CallY.con (made_con l hl hz) (by rfl) leA ?_) | (refine CallZ.con (fun hg => made_con l hl hz) rflsA (by rfl) ?_) | refine zE 300 (awake14) ?_ | refine zF 300 (fun hg => awake14) ?_ | refine zE 300 (made_con l hl hz) ?_ | refine zF 300 (fun hg => made_con l hl hz) ?_ | refine zD 300 ?_ | (refine Br.intro (fun hb => ?_) (fun hb => ?_) <;> (try simp [-List.getD_eq_getElem?_getD] at hb) <;> (try (exfalso; omega))) | refine Ob.intro ?_ ?_))
  · exact Le.refl _
  · exact Le.refl _
  have hmd : (madeF l).2 = true := by assumption
  have hok := (made_ok hmd).1
  have htr := made_tree hmd
  have hlen := (made_ok hmd).2.2.1.len
  have hroot := (made_ok hmd).2.2.1.root
  have hvf : VFit (madeF l).1.vars := by rw [(made_ok hmd).2.1]; exact makeF_fit (made_ok hmd).2.2.1 (check_ok (made_ok hmd).2.2.2).2
  clear hb hmd
  generalize (madeF l).1 = M at hok htr hvf ⊢
  have hm := hok.ok
  have hf := held_fits hm raw
  have hs := held_ssz hm raw
  have hso := sok_of_fits hm hf
  have hsz := hm.sz
  ((conv => whnf); refine loop_auto (fun _ => rfl) 300 1 (fun i : Nat => [(9, iv i), (6, .bool false)]) (fun _ => []) (fun i => i ≤ s.chans.length ∧ ∀ j, j < i → (s.chans.getD j []).length ≤ 20) (fun i => s.chans.length - i) (0) (⟨Nat.zero_le _, fun j hj => absurd hj (Nat.not_lt_zero j)⟩) subtA subtA (fun _ => rfl) (by kernel_rfl) ?_; (conv => whnf))
  intro i hi
  (repeat' ((conv => whnf); first | refine zA ?_ | refine zO ?_ | refine Ob.auto ?_ | (refine Ob.intro (by (exact ⟨by omega, by omega⟩)) ?_) | refine zD 300 ?_ | (refine Br.intro (fun hb => ?_) (fun hb => ?_) <;> (try simp [-List.getD_eq_getElem?_getD] at hb) <;> (try (exfalso; omega))) | refine Ob.intro ?_ ?_))
  · exact Le.refl _
  · ((conv => whnf); refine ⟨i + 1, ⟨by omega, fun j hj => by rcases Nat.lt_succ_iff_lt_or_eq.1 hj with hj | rfl; exact hi.2 j hj; omega⟩, ⟨subtA, subtA⟩, ⟨subtA, subtA⟩, ?_⟩; (first | omega | (dsimp only; omega) | skip))
  have hch : ∀ c ∈ s.chans, c.length ≤ 20 := fun c hc => by
    obtain ⟨j, hj, rfl⟩ := List.mem_iff_getElem.1 hc
    have := hi.2 j (by omega)
    rw [List.getD_eq_getElem?_getD, List.getElem?_eq_getElem hj] at this
    exact this
  have hff := first_fits hm hvf
  have hfz := first_ssz hm
  have hfc : Con Try.prog 20 [M.av, s.av] (.bool (fitsB M s)) ∧ Con Try.prog 21 [M.av, s.av] (.bool (fitsB M s)) := by
    by_cases h0 : s.at_.length = M.procs.length ∧ s.vars.length = M.vars.length ∧ s.chans.length = M.chans.length
    · have hss : SSz s := ⟨by omega, by omega, by omega, fun c hc => by have := hch c hc; omega⟩
      exact ⟨fits_con M s hss, rfits_con M s hss⟩
    · exact ⟨fits_no_con M s h0, rfits_no_con M s h0⟩
  obtain ⟨hfc1, hfc2⟩ := hfc
  have c1 := fits_con M (firstF M) hfz
  rw [hff] at c1
  have c2 := fits_con M (heldF M raw) hs
  rw [hf] at c2
  have c3 := same_con (firstF M) (firstF M) hfz
  rw [show sameB (firstF M) (firstF M) = true by simp [sameB]] at c3
  have c4 := svalue_con M hm (-1) (heldF M raw) hs 0
  have hv0 : sval M (-1) (heldF M raw) 0 = (0, false) := by
    unfold sval
    split
    · unfold val
      obtain ⟨n, hn⟩ : ∃ n, M.tree.length = n + 1 := ⟨M.tree.length - 1, by rw [htr]; omega⟩
      have hk : (M.tree.getD (0 : Int).toNat Nd.none).kind = 0 := by rw [htr]; exact hroot
      rw [hn, valN, if_neg (by omega), if_neg (by omega), if_neg (by omega), if_neg (by omega), if_neg (by omega), if_neg (by omega)]
    · rfl
  rw [hv0] at c4
  ((conv => whnf); refine call_rule (fun _ => rfl) 300 (held_con M hm raw) (by rfl) leA (by kernel_rfl) ?_)
  (repeat' ((conv => whnf); first | refine zA ?_ | refine zO ?_ | refine Ob.auto ?_ | refine zD 300 ?_ | (refine Br.intro (fun hb => ?_) (fun hb => ?_) <;> (try simp [-List.getD_eq_getElem?_getD] at hb) <;> (try (exfalso; omega))) | refine Ob.intro ?_ ?_))
  (repeat' ((conv => whnf); first | refine zA ?_ | refine zO ?_ | refine Ob.auto ?_ | refine zC 300 (sfirst_con M hm) ?_ | refine zG 300 (fun hg => sfirst_con M hm) ?_ | (refine CallY.con (sfirst_con M hm) (by rfl) leA ?_) | (refine CallZ.con (fun hg => sfirst_con M hm) rflsA (by rfl) ?_) | refine zC 300 (rfirst_con M hm) ?_ | refine zG 300 (fun hg => rfirst_con M hm) ?_ | (refine CallY.con (rfirst_con M hm) (by rfl) leA ?_) | (refine CallZ.con (fun hg => rfirst_con M hm) rflsA (by rfl) ?_) | refine zC 300 (c3) ?_ | refine zG 300 (fun hg => c3) ?_ | (refine CallY.con (c3) (by rfl) leA ?_) | (refine CallZ.con (fun hg => c3) rflsA (by rfl) ?_) | refine zC 300 (c1) ?_ | refine zG 300 (fun hg => c1) ?_ | (refine CallY.con (c1) (by rfl) leA ?_) | (refine CallZ.con (fun hg => c1) rflsA (by rfl) ?_) | refine zC 300 (c2) ?_ | refine zG 300 (fun hg => c2) ?_ | (refine CallY.con (c2) (by rfl) leA ?_) | (refine CallZ.con (fun hg => c2) rflsA (by rfl) ?_) | refine zC 300 (hfc1) ?_ | refine zG 300 (fun hg => hfc1) ?_ | (refine CallY.con (hfc1) (by rfl) leA ?_) | (refine CallZ.con (fun hg => hfc1) rflsA (by rfl) ?_) | refine zC 300 (hfc2) ?_ | refine zG 300 (fun hg => hfc2) ?_ | (refine CallY.con (hfc2) (by rfl) leA ?_) | (refine CallZ.con (fun hg => hfc2) rflsA (by rfl) ?_) | refine zE 300 (sfirst_con M hm) ?_ | refine zF 300 (fun hg => sfirst_con M hm) ?_ | refine zE 300 (rfirst_con M hm) ?_ | refine zF 300 (fun hg => rfirst_con M hm) ?_ | refine zE 300 (c3) ?_ | refine zF 300 (fun hg => c3) ?_ | refine zE 300 (c1) ?_ | refine zF 300 (fun hg => c1) ?_ | refine zE 300 (c2) ?_ | refine zF 300 (fun hg => c2) ?_ | refine zE 300 (hfc1) ?_ | refine zF 300 (fun hg => hfc1) ?_ | refine zE 300 (hfc2) ?_ | refine zF 300 (fun hg => hfc2) ?_ | refine zD 300 ?_ | (refine draw4 (fun _ => rfl) (by kernel_rfl) 300 ?_) | (refine Br.intro (fun hb => ?_) (fun hb => ?_) <;> (try simp [-List.getD_eq_getElem?_getD] at hb) <;> (try (exfalso; omega))) | refine Ob.intro ?_ ?_))
  (repeat' ((conv => whnf); first | refine zA ?_ | refine zO ?_ | refine Ob.auto ?_ | refine zC 300 (c4) ?_ | refine zG 300 (fun hg => c4) ?_ | (refine CallY.con (c4) (by rfl) leA ?_) | (refine CallZ.con (fun hg => c4) rflsA (by rfl) ?_) | refine zE 300 (c4) ?_ | refine zF 300 (fun hg => c4) ?_ | refine zD 300 ?_ | (refine Br.intro (fun hb => ?_) (fun hb => ?_) <;> (try simp [-List.getD_eq_getElem?_getD] at hb) <;> (try (exfalso; omega))) | refine Ob.intro ?_ ?_))
  exact Le.refl _

end Go.Proofs.Ytdoaagphhjggbaa
end
section
/- A state as an argument is read as the executor reads it. -/
namespace Go.Proofs.Ytdoaagphhjggbaa
open Go Go.Sx Go.RowKit Go.St
set_option maxRecDepth 100000

section
variable {H : Type} {enc : TypeId × Value → H}

theorem rdr_rows : Rdr enc Try.prog 32 (fun ys => ∃ l : List (List Int), (l.length ≤ maxLen ∧ ∀ r ∈ l, True) ∧ ys = [slcL (fun l => [ints l]) [] 1 l]) :=
  rdr_slice (en := fun l => [ints l]) Try.underlying32 (by kernel_rfl) (by decide) (fun _ => rfl) (rdr_ints.mono fun ys ⟨l, _, h⟩ => ⟨l, trivial, h⟩)

def stQ : Nat → AV → Prop
  | 0, y | 1, y => ∃ l : List Int, l.length ≤ maxLen ∧ y = ints l
  | 2, y => ∃ l : List (List Int), l.length ≤ maxLen ∧ y = slcL (fun l => [ints l]) [] 1 l
  | 3, y => ∃ n : Int, y = iv n
  | _, _ => True

theorem rdr_state : Rdr enc Try.prog 34 (fun ys => ∃ s : Stt, s.chans.length ≤ 9223372036854775807 ∧ ys = s.cells) := by
  refine (rdr_struct (q := stQ) Try.underlying34 (by kernel_rfl) (fun i f hf => ?_)).mono fun ys hy => ?_
  · match i with
    | 0 => cases hf; exact ⟨⟨rfl, by kernel_rfl⟩, rdr_ints.mono fun ys ⟨l, h1, h⟩ => ⟨_, ⟨l, h1.1, rfl⟩, h⟩⟩
    | 1 => cases hf; exact ⟨⟨rfl, by kernel_rfl⟩, rdr_ints.mono fun ys ⟨l, h1, h⟩ => ⟨_, ⟨l, h1.1, rfl⟩, h⟩⟩
    | 2 => cases hf; exact ⟨⟨rfl, by kernel_rfl⟩, rdr_rows.mono fun ys ⟨l, h1, h⟩ => ⟨_, ⟨l, h1.1, rfl⟩, h⟩⟩
    | 3 => cases hf; exact ⟨⟨rfl, by kernel_rfl⟩, (rdr_int Try.underlying3).mono fun ys ⟨n, _, h⟩ => ⟨_, ⟨n, rfl⟩, h⟩⟩
    | i + 4 => simp at hf
  · obtain ⟨h1, h2⟩ := hy
    match ys, h1 with
    | [a, b, c, d], _ =>
      obtain ⟨x, _, rfl⟩ := h2 0 a rfl
      obtain ⟨y, _, rfl⟩ := h2 1 b rfl
      obtain ⟨z, hz, rfl⟩ := h2 2 c rfl
      obtain ⟨w, rfl⟩ := h2 3 d rfl
      rw [max64] at hz
      exact ⟨⟨x, y, z, w⟩, hz, rfl⟩

end

end Go.Proofs.Ytdoaagphhjggbaa
end
