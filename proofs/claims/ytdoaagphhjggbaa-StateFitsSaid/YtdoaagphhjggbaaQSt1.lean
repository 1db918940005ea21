/- Contracts: numbers of so many bits. -/
import Derived.Test.YtdoaagphhjggbaaQ3
import Derived.Test.YtdoaagphhjggbaaQ1
import Derived.Test.YtdoaagphhjggbaaQ2
import Derived.Test.YtdoaagphhjggbaaProg
import Derived.KernelRfl
namespace Go.Proofs.Ytdoaagphhjggbaa
open Go Go.Sx Go.RowKit Go.St
set_option maxRecDepth 100000

theorem rtrim_con (n w : Int) : Con Try.prog 25 [iv n, iv w] (iv (trim n w)) := by
  have hw : (wid w : Int) = min (max w 1) 16 := by unfold wid; omega
  have hwp := wid_pos w
  have hp := pow_le (wid w) hwp.2
  refine con_of_exec (T := tab Try.prog) (C := {}) 300 (fun _ => rfl) Try.func25 rfl (by kernel_rfl) (by kernel_rfl) (fun c0 rdb => ?_)
  repeat' ((conv => whnf); first | refine Ob.auto ?_ | (refine Br.intro (fun hb => ?_) (fun hb => ?_) <;> (try simp at hb) <;> (try (exfalso; omega))) | refine Ob.intro ?_ ?_)
  all_goals
    (conv => whnf); refine loop_rule (fun _ => rfl) 300 1 (fun i : Nat => ⟨[(0, iv n), (1, iv (wid w)), (5, iv (2 ^ i)), (6, iv i)], [], 0⟩)
      (fun i => i ≤ wid w) (fun i => wid w - i) 0 (by omega) ⟨⟨Le.refl _, Le.of_eq (congrArg iv (by omega)), Le.refl _, Le.refl _, trivial⟩, trivial⟩ (fun _ => rfl) (by kernel_rfl) ?_
    intro i hi
    have hpi := pow_le i (by omega)
    have hm1 := Int.tmod_lt_of_pos n (show 0 < (2 : Int) ^ i by omega)
    have hm2 := Int.lt_tmod_of_pos n (show 0 < (2 : Int) ^ i by omega)
    have hd : ((2 : Int) ^ i).tdiv 2 = 2 ^ i / 2 := Int.tdiv_eq_ediv_of_nonneg (by omega)
    have ht := trim_eq n w
    (repeat' ((conv => whnf); first | refine Ob.auto ?_ | (refine Ob.intro (by (exact ⟨by omega, inR_i64 (by omega) (by omega)⟩)) ?_) | (refine Br.intro (fun hb => ?_) (fun hb => ?_) <;> (try simp at hb) <;> (try (exfalso; omega))) | refine Ob.intro ?_ ?_))
    · (conv => whnf); refine Exists.intro (i + 1) ⟨by omega, ⟨⟨Le.refl _, Le.refl _, Le.of_eq (congrArg iv (Int.pow_succ 2 i).symm), Le.refl _, trivial⟩, trivial⟩, by omega⟩
    all_goals
      obtain rfl : i = wid w := by omega
      refine Le.of_eq (congrArg (AV.int _) ?_)
      rw [ht]
      (repeat' split) <;> omega

theorem width_con (w : Int) : Con Try.prog 89 [iv w] (iv (wid w)) := by
  refine con_of_exec (T := tab Try.prog) (C := {}) 300 (fun _ => rfl) Try.func89 rfl (by kernel_rfl) (by kernel_rfl) (fun c0 rdb => ?_)
  repeat' ((conv => whnf); first | refine Ob.auto ?_ | (refine Br.intro (fun hb => ?_) (fun hb => ?_) <;> (try simp at hb) <;> (try (exfalso; omega))) | refine Ob.intro ?_ ?_)
  refine Le.of_eq (congrArg iv ?_)
  unfold wid
  show min (max w 1) 16 = _
  omega

theorem trim_con (n w : Int) : Con Try.prog 61 [iv n, iv w] (iv (trim n w)) := by
  refine con_of_exec (T := tab Try.prog) (C := {}) 300 (fun _ => rfl) Try.func61 rfl (by kernel_rfl) (by kernel_rfl) (fun c0 rdb => ?_)
  have hw := wid_pos w
  have hp := pow_le (wid w) hw.2
  have hq := pow_le (wid w - 1) (by omega)
  have hh := pow_half (wid w) hw.1
  have hs1 : shlI .i64 1 (wid w) = 2 ^ wid w := by
    unfold shlI; rw [Int.toNat_natCast, Nat.min_eq_left (by show _ ≤ 64; omega), Int.one_mul]
  have hs2 : shlI .i64 1 ((wid w : Int) - 1) = 2 ^ (wid w - 1) := by
    unfold shlI; rw [show ((wid w : Int) - 1).toNat = wid w - 1 by omega, Nat.min_eq_left (by show _ ≤ 64; omega), Int.one_mul]
  have hbt : bitI .and .i64 n (shlI .i64 1 (wid w) - 1) = n % 2 ^ wid w := by rw [hs1]; exact mask _ hw.2 n
  have h1 := Int.emod_nonneg n (b := 2 ^ wid w) (by omega)
  have h2 := Int.emod_lt_of_pos n (b := 2 ^ wid w) (by omega)
  (repeat' ((conv => whnf); first | refine Ob.auto ?_ | (refine Ob.intro (by (first | exact ⟨by omega, inR_i64 (by omega) (by omega)⟩ | exact inR_i64 (by omega) (by omega))) ?_) | refine zC 300 (width_con _) ?_ | refine zG 300 (fun hg => width_con _) ?_ | (refine draw_nc (fun _ => rfl) (by kernel_rfl) 300 (by rfl) (by kernel_rfl) ?_) | (refine Br.intro (fun hb => ?_) (fun hb => ?_) <;> (try simp [-List.getD_eq_getElem?_getD] at hb) <;> (try (exfalso; omega))) | refine Ob.intro ?_ ?_))
  all_goals
    refine Le.of_eq (congrArg (AV.int _) ?_)
    unfold trim
    split <;> omega

theorem number_con (b : Bool) : Con Try.prog 62 [.bool b] (iv (if b then 1 else 0)) := by
  refine con_of_exec (T := tab Try.prog) (C := {}) 300 (fun _ => rfl) Try.func62 rfl (by kernel_rfl) (by kernel_rfl) (fun c0 rdb => ?_)
  repeat' ((conv => whnf); first | refine Ob.auto ?_ | (refine Br.intro (fun hb => ?_) (fun hb => ?_)) | refine Ob.intro ?_ ?_)
  all_goals subst hb; exact Le.refl _

theorem narrow_con (n w : Int) : Con Try.prog 42 [iv n, iv w] (.bool (trim n w == n)) := by
  refine con_of_exec (T := tab Try.prog) (C := {}) 300 (fun _ => rfl) Try.func42 rfl (by kernel_rfl) (by kernel_rfl) (fun c0 rdb => ?_)
  (repeat' ((conv => whnf); first | refine Ob.auto ?_ | refine zC 300 (trim_con _ _) ?_ | refine zG 300 (fun hg => trim_con _ _) ?_ | (refine draw_nc (fun _ => rfl) (by kernel_rfl) 300 (by rfl) (by kernel_rfl) ?_) | (refine Br.intro (fun hb => ?_) (fun hb => ?_) <;> (try simp [-List.getD_eq_getElem?_getD] at hb) <;> (try (exfalso; omega))) | refine Ob.intro ?_ ?_))
  exact Le.refl _

theorem do_con (op a b : Int) (h : -32768 ≤ a ∧ a ≤ 32768) (h' : -32768 ≤ b ∧ b ≤ 32768) : Con Try.prog 31 [iv op, iv a, iv b, iv 8] (iv (doF op a b)) := by
  have hm := mul_bound h h'
  refine con_of_exec (T := tab Try.prog) (C := {}) 300 (fun _ => rfl) Try.func31 rfl (by kernel_rfl) (by kernel_rfl) (fun c0 rdb => ?_)
  (repeat' ((conv => whnf); first | refine Ob.auto ?_ | (refine Ob.intro (by (exact inR_i64 (by omega) (by omega))) ?_) | refine zC 300 (rtrim_con _ _) ?_ | refine zG 300 (fun hg => rtrim_con _ _) ?_ | (refine draw_nc (fun _ => rfl) (by kernel_rfl) 300 (by rfl) (by kernel_rfl) ?_) | (refine Br.intro (fun hb => ?_) (fun hb => ?_) <;> (try simp [-List.getD_eq_getElem?_getD] at hb) <;> (try (exfalso; omega))) | refine Ob.intro ?_ ?_))
  · refine Le.of_eq (congrArg (AV.int _) ?_)
    simp only [doF]; rw [if_pos (by assumption)]
  · refine Le.of_eq (congrArg (AV.int _) ?_)
    simp only [doF]; rw [if_neg (by assumption), if_pos (by assumption)]
  · refine Le.of_eq (congrArg (AV.int _) ?_)
    simp only [doF]; rw [if_neg (by assumption), if_neg (by assumption), if_pos (by assumption)]
  · refine Le.of_eq (congrArg (AV.int _) ?_)
    simp only [doF]; rw [if_neg (by assumption), if_neg (by assumption), if_neg (by assumption), if_pos (by assumption)]
  all_goals
    (conv => whnf); refine loop_rule (fun _ => rfl) 300 1 (fun q : Nat => ⟨[(0, iv op), (1, iv a), (2, iv b), (3, iv 8), (10, iv b.natAbs), (11, iv q), (12, iv (a.natAbs - q * b.natAbs))], [], 0⟩)
      (fun q => q * b.natAbs ≤ a.natAbs ∧ q ≤ 32768) (fun q => a.natAbs - q * b.natAbs) 0 (by omega) ⟨⟨Le.refl _, Le.refl _, Le.refl _, Le.refl _, Le.of_eq (congrArg iv (by omega)), Le.refl _, Le.of_eq (congrArg iv (by omega)), trivial⟩, trivial⟩ (fun _ => rfl) (by kernel_rfl) ?_
    intro q hq
    have hbp : 1 ≤ b.natAbs := by omega
    have hqb : ((q * b.natAbs : Nat) : Int) = (q : Int) * (b.natAbs : Int) := by push_cast; rfl
    (repeat' ((conv => whnf); first | refine Ob.auto ?_ | (refine Ob.intro (by (exact inR_i64 (by omega) (by omega))) ?_) | refine zC 300 (rtrim_con _ _) ?_ | refine zG 300 (fun hg => rtrim_con _ _) ?_ | (refine draw_nc (fun _ => rfl) (by kernel_rfl) 300 (by rfl) (by kernel_rfl) ?_) | (refine Br.intro (fun hb => ?_) (fun hb => ?_) <;> (try simp [-List.getD_eq_getElem?_getD] at hb) <;> (try (exfalso; omega))) | refine Ob.intro ?_ ?_))
    · have hs : (q + 1) * b.natAbs = q * b.natAbs + b.natAbs := Nat.succ_mul ..
      have hs' : ((q + 1 : Nat) : Int) * (b.natAbs : Int) = (q : Int) * b.natAbs + b.natAbs := by push_cast; rw [Int.add_mul, Int.one_mul]
      have hqn : q + 1 ≤ (q + 1) * b.natAbs := Nat.le_mul_of_pos_right _ hbp
      (conv => whnf); refine Exists.intro (q + 1) ⟨⟨by omega, by omega⟩, ⟨⟨Le.refl _, Le.refl _, Le.refl _, Le.refl _, Le.refl _, Le.refl _, Le.of_eq (congrArg iv (by omega)), trivial⟩, trivial⟩, by omega⟩
    all_goals
      have hdv := div_steps' a b q (by omega) (by omega) (by omega)
      refine Le.of_eq (congrArg (AV.int _) ?_)
      simp only [doF]; rw [if_neg (by assumption), if_neg (by assumption), if_neg (by assumption), if_neg (by assumption)]
      first
        | (rw [if_pos (by assumption), hdv.1]; congr 1; (repeat' split) <;> omega)
        | (rw [if_neg (by assumption), hdv.2]; congr 1; (repeat' split) <;> omega)

theorem apply_con (op a b : Int) (h : -32768 ≤ a ∧ a ≤ 32768) (h' : -32768 ≤ b ∧ b ≤ 32768) : Con Try.prog 63 [iv op, iv a, iv b] (applyV op a b) := by
  have hm := mul_bound h h'
  have hd := tdiv_bound a b h
  refine con_of_exec (T := tab Try.prog) (C := {}) 300 (fun _ => rfl) Try.func63 rfl (by kernel_rfl) (by kernel_rfl) (fun c0 rdb => ?_)
  (repeat' ((conv => whnf); first | refine Ob.auto ?_ | (refine Ob.intro (by (first | exact inR_i64 (by omega) (by omega) | exact ⟨by assumption, inR_i64 (by omega) (by omega)⟩)) ?_) | refine zC 300 (trim_con _ _) ?_ | refine zG 300 (fun hg => trim_con _ _) ?_ | refine zC 300 (number_con _) ?_ | refine zG 300 (fun hg => number_con _) ?_ | (refine draw_nc (fun _ => rfl) (by kernel_rfl) 300 (by rfl) (by kernel_rfl) ?_) | (refine Br.intro (fun hb => ?_) (fun hb => ?_) <;> (try simp [-List.getD_eq_getElem?_getD] at hb) <;> (try (exfalso; omega))) | refine Ob.intro ?_ ?_))
  all_goals
    refine Le.of_eq ?_
    simp [applyV, applyF, pairV, *]

theorem part_con (l : List Int) (k n : Int) (hk : 0 ≤ k) (hn : 1 ≤ n ∧ n ≤ 1000001) : Con Try.prog 28 [ints l, iv k, iv n] (iv (partN l k n)) := by
  refine con_of_exec (T := tab Try.prog) (C := {}) 300 (fun _ => rfl) Try.func28 rfl (by kernel_rfl) (by kernel_rfl) (fun c0 rdb => ?_)
  have hpt := part_steps l k n hk (by omega)
  by_cases hl : l = []
  · subst hl
    repeat' ((conv => whnf); first | refine Ob.auto ?_ | (refine Br.intro (fun hb => ?_) (fun hb => ?_) <;> (try simp at hb) <;> (try (exfalso; omega))) | refine Ob.intro ?_ ?_)
    exact Le.refl _
  · have hl' : 0 < l.length := List.length_pos_iff.2 hl
    have hkm : k.tmod l.length = k % l.length := Int.tmod_eq_emod_of_nonneg hk
    have h1 := Int.emod_nonneg k (b := l.length) (by omega)
    have h2 := Int.emod_lt_of_pos k (b := l.length) (by omega)
    have h3 := Int.tmod_lt_of_pos (l.getD (k.tmod l.length).toNat 0) (show 0 < n by omega)
    have h4 := Int.lt_tmod_of_pos (l.getD (k.tmod l.length).toNat 0) (show 0 < n by omega)
    repeat' ((conv => whnf); first | refine Ob.auto ?_ | refine Ob.intro ?_ ?_)
    (conv => whnf); refine Br.intro (fun hb => ?_) (fun hb => ?_)
    · exfalso; simp at hb; exact hl hb
    have h5 := h3
    have h6 := h4
    simp only [List.getD_eq_getElem?_getD] at hpt h5 h6
    (repeat' ((conv => whnf); first | refine Ob.auto ?_ | (refine Ob.intro (by (exact ⟨by omega, by omega⟩)) ?_) | (refine Br.intro (fun hb => ?_) (fun hb => ?_) <;> (try simp at hb) <;> (try (exfalso; omega))) | refine Ob.intro ?_ ?_))
    · refine Le.of_eq (congrArg (AV.int _) ?_)
      rw [hpt, if_neg (by omega), if_pos (by assumption), List.getD_eq_getElem?_getD]
    · refine Le.of_eq (congrArg (AV.int _) ?_)
      rw [hpt, if_neg (by omega), if_neg (Int.not_lt.2 (by assumption)), List.getD_eq_getElem?_getD]

end Go.Proofs.Ytdoaagphhjggbaa
