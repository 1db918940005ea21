/- Contracts: expressions, by the document's answer. -/
import Derived.Test.YtdoaagphhjggbaaQSt1
import Derived.Test.YtdoaagphhjggbaaQStP
import Derived.Test.YtdoaagphhjggbaaQ2
namespace Go.Proofs.Ytdoaagphhjggbaa
open Go Go.Sx Go.RowKit Go.St
set_option maxRecDepth 100000
set_option maxHeartbeats 2000000

theorem variable_con (m : Md) (hm : MOk m) (p : Int) (s : List UInt8) : Con Try.prog 29 [m.av, iv p, .str s] (iv (varN m p s)) := by
  have hg := hm.glob
  have hsz := hm.sz
  refine con_of_exec (T := tab Try.prog) (C := {}) 300 (fun _ => rfl) Try.func29 rfl (by kernel_rfl) (by kernel_rfl) (fun c0 rdb => ?_)
  (repeat' ((conv => whnf); first | (refine Ob.auto ?_) | (refine draw_nc (fun _ => rfl) (by kernel_rfl) 300 (by rfl) (by kernel_rfl) ?_) | (refine Br.intro (fun hb => ?_) (fun hb => ?_) <;> (try simp [-List.getD_eq_getElem?_getD] at hb) <;> (try (exfalso; omega))) | (refine Ob.intro ?_ ?_)))
  · have hp : 0 ≤ p ∧ p < m.procs.length := by assumption
    have hq := hm.procs _ (getD_mem m.procs p.toNat Pr.none (by omega))
    have hq2 := hm.psz _ (getD_mem m.procs p.toNat Pr.none (by omega))
    have hv : varN m p s = _ := if_pos hp
    ((conv => whnf); refine loop_keep (fun _ => rfl) 300 1 [2, 3, 7] [0, 1] (fun i : Nat => [(8, iv i)]) (fun _ => []) (fun i => i ≤ (m.procs.getD p.toNat Pr.none).names.length ∧ ∀ j, j < i → ((m.procs.getD p.toNat Pr.none).names.getD j [] == s) = false) (fun i => (m.procs.getD p.toNat Pr.none).names.length - i) (0) (⟨by omega, fun j hj => absurd hj (Nat.not_lt_zero j)⟩) subtA subtA (fun _ => rfl) (by kernel_rfl) ?_; (conv => whnf))
    intro i hi
    (repeat' ((conv => whnf); first | (refine Ob.auto ?_) | (refine Ob.intro (by (exact ⟨by omega, by omega⟩)) ?_) | (refine draw_nc (fun _ => rfl) (by kernel_rfl) 300 (by rfl) (by kernel_rfl) ?_) | (refine Br.intro (fun hb => ?_) (fun hb => ?_) <;> (try simp [-List.getD_eq_getElem?_getD] at hb) <;> (try (exfalso; omega))) | (refine Ob.intro ?_ ?_)))
    · refine Le.of_eq (congrArg (AV.int _) ?_)
      have := idx_at (· == s) (m.procs.getD p.toNat Pr.none).names [] i (by assumption) (beq_iff_eq.2 (by assumption)) hi.2
      rw [hv, this, if_neg (by omega)]
    · ((conv => whnf); refine ⟨i + 1, ⟨by omega, upto_succ hi.2 (beq_eq_false_iff_ne.2 (by assumption))⟩, ⟨subtA, subtA⟩, ⟨subtA, subtA⟩, ?_⟩; (first | omega | (dsimp only; omega) | skip))
    · refine Le.of_eq (congrArg (AV.int _) ?_)
      have := idx_none (· == s) (m.procs.getD p.toNat Pr.none).names [] (fun j hj => hi.2 j (by omega))
      rw [hv, this, if_pos (by omega)]
  · have hp : ¬ (0 ≤ p ∧ p < m.procs.length) := by omega
    have hv : varN m p s = _ := if_neg hp
    have htk : ∀ j : Nat, (j : Int) < m.globals → (m.vars.take m.globals.toNat).getD j Vr.none = m.vars.getD j Vr.none := fun j hj => by
      rw [List.getD_eq_getElem?_getD, List.getElem?_take, if_pos (by omega), ← List.getD_eq_getElem?_getD]
    have hl : (m.vars.take m.globals.toNat).length = m.globals.toNat := by rw [List.length_take]; omega
    ((conv => whnf); refine loop_keep (fun _ => rfl) 300 1 [2, 3] [0] (fun i : Nat => [(9, iv i)]) (fun _ => []) (fun i => (i : Int) ≤ m.globals ∧ ∀ j, j < i → ((m.vars.getD j Vr.none).name == s) = false) (fun i => m.globals.toNat - i) (0) (⟨by omega, fun j hj => absurd hj (Nat.not_lt_zero j)⟩) subtA subtA (fun _ => rfl) (by kernel_rfl) ?_; (conv => whnf))
    intro i hi
    (repeat' ((conv => whnf); first | (refine Ob.auto ?_) | (refine Ob.intro (by (exact ⟨by omega, by omega⟩)) ?_) | (refine draw_nc (fun _ => rfl) (by kernel_rfl) 300 (by rfl) (by kernel_rfl) ?_) | (refine Br.intro (fun hb => ?_) (fun hb => ?_) <;> (try simp [-List.getD_eq_getElem?_getD] at hb) <;> (try (exfalso; omega))) | (refine Ob.intro ?_ ?_)))
    · refine Le.of_eq (congrArg (AV.int _) ?_)
      have := idx_at (fun v : Vr => v.name == s) (m.vars.take m.globals.toNat) Vr.none i (by omega) (by rw [htk i (by omega)]; exact beq_iff_eq.2 (by assumption)) (fun j hj => by rw [htk j (by omega)]; exact hi.2 j hj)
      rw [hv, this]
    · ((conv => whnf); refine ⟨i + 1, ⟨by omega, upto_succ hi.2 (beq_eq_false_iff_ne.2 (by assumption))⟩, ⟨subtA, subtA⟩, ⟨subtA, subtA⟩, ?_⟩; (first | omega | (dsimp only; omega) | skip))
    · refine Le.of_eq (congrArg (AV.int _) ?_)
      have := idx_none (fun v : Vr => v.name == s) (m.vars.take m.globals.toNat) Vr.none (fun j hj => by rw [htk j (by omega)]; exact hi.2 j (by omega))
      rw [hv, this]

theorem rvalue_con (m : Md) (hm : MOk m) (p : Int) (s : Stt) (hs : SOk m s) : ∀ (n : Nat) (k : Int), 0 ≤ k → k < m.tree.length → m.tree.length - k.toNat ≤ n → Con Try.prog 11 [m.av, iv p, s.av, iv k] (pairV (valN m p s n k)) := by
  intro n
  induction n with
  | zero => intro k h0 h1 h2; omega
  | succ n ih =>
    intro k h0 h1 h2
    have hnd := hm.tree k.toNat (by omega)
    have h17 := hnd.num
    have h18 := hnd.word
    have h20 := hnd.un
    have h22 := hnd.bin
    have hsz := hm.sz
    have hvb := valN_bound hm hs p n
    have hvl := hs.vl
    have hcl := hs.cl
    refine con_of_exec (T := tab Try.prog) (C := {}) 600 (fun _ => rfl) Try.func11 rfl (by kernel_rfl) (by kernel_rfl) (fun c0 rdb => ?_)
    (repeat' ((conv => whnf); first | (refine Ob.auto ?_) | (refine Ob.intro (by (exact ⟨by omega, by omega⟩)) ?_) | (refine call_eq (fun _ => rfl) 600 (rtrim_con _ _) (by rfl) (by kernel_rfl) ?_) | (refine gcall_eq (fun _ => rfl) 600 (fun hg => rtrim_con _ _) (by rfl) rflsA (by kernel_rfl) ?_) | (refine draw_nc (fun _ => rfl) (by kernel_rfl) 600 (by rfl) (by kernel_rfl) ?_) | (refine Br.intro (fun hb => ?_) (fun hb => ?_) <;> (try simp [-List.getD_eq_getElem?_getD] at hb) <;> (try (exfalso; omega))) | (refine Ob.intro ?_ ?_)))
    · refine Le.of_eq ?_
      rw [valN, if_pos (by assumption)]; rfl
    · have hvn := varN_lt hm p ((m.tree.getD k.toNat Nd.none).words.getD 0 [])
      ((conv => whnf); refine draw_ex (fun _ => rfl) (by kernel_rfl) 600 [iv (varN m p ((m.tree.getD k.toNat Nd.none).words.getD 0 []))] (by kernel_rfl) ?_)
      (repeat' ((conv => whnf); first | (refine Ob.auto ?_) | (refine Ob.intro (by (first | exact ⟨by omega, by omega⟩ | exact ⟨_, variable_con m hm p _, by rfl, LeL.refl _⟩)) ?_) | (refine draw_nc (fun _ => rfl) (by kernel_rfl) 600 (by rfl) (by kernel_rfl) ?_) | (refine Br.intro (fun hb => ?_) (fun hb => ?_) <;> (try simp [-List.getD_eq_getElem?_getD] at hb) <;> (try (exfalso; omega))) | (refine Ob.intro ?_ ?_)))
      · refine Le.of_eq ?_
        rw [valN, if_neg (by assumption), if_pos (by assumption), if_pos (by assumption)]; rfl
      · refine Le.of_eq ?_
        rw [valN, if_neg (by assumption), if_pos (by assumption), if_neg (by omega)]; rfl
    · ((conv => whnf); refine loop_keep (fun _ => rfl) 600 1 [4, 6, 10] [0, 1, 2] (fun i : Nat => [(12, iv i)]) (fun _ => []) (fun i => i ≤ m.chans.length ∧ ∀ j, j < i → ((m.chans.getD j Ch.none).name == (m.tree.getD k.toNat Nd.none).words.getD 0 []) = false) (fun i => m.chans.length - i) (0) (⟨by omega, fun j hj => absurd hj (Nat.not_lt_zero j)⟩) subtA subtA (fun _ => rfl) (by kernel_rfl) ?_; (conv => whnf))
      intro i hi
      (repeat' ((conv => whnf); first | (refine Ob.auto ?_) | (refine Ob.intro (by (exact ⟨by omega, by omega⟩)) ?_) | (refine draw_nc (fun _ => rfl) (by kernel_rfl) 600 (by rfl) (by kernel_rfl) ?_) | (refine Br.intro (fun hb => ?_) (fun hb => ?_) <;> (try simp [-List.getD_eq_getElem?_getD] at hb) <;> (try (exfalso; omega))) | (refine Ob.intro ?_ ?_)))
      · refine Le.of_eq ?_
        have := idx_at (fun c : Ch => c.name == (m.tree.getD k.toNat Nd.none).words.getD 0 []) m.chans Ch.none i (by omega) (beq_iff_eq.2 (by assumption)) hi.2
        rw [valN, if_neg (by assumption), if_neg (by assumption), if_pos (by assumption), this, if_neg (by omega)]; rfl
      · ((conv => whnf); refine ⟨i + 1, ⟨by omega, upto_succ hi.2 (beq_eq_false_iff_ne.2 (by assumption))⟩, ⟨subtA, subtA⟩, ⟨subtA, subtA⟩, ?_⟩; (first | omega | (dsimp only; omega) | skip))
      · refine Le.of_eq ?_
        have := idx_none (fun c : Ch => c.name == (m.tree.getD k.toNat Nd.none).words.getD 0 []) m.chans Ch.none (fun j hj => hi.2 j (by omega))
        rw [valN, if_neg (by assumption), if_neg (by assumption), if_pos (by assumption), this, if_pos (by omega)]; rfl
    · have hk := h20 (.inl (by assumption))
      have hb0 := hvb ((m.tree.getD k.toNat Nd.none).kids.getD 0 0)
      ((conv => whnf); refine draw_ex (fun _ => rfl) (by kernel_rfl) 600 [.tup [iv (valN m p s n ((m.tree.getD k.toNat Nd.none).kids.getD 0 0)).1, .bool (valN m p s n ((m.tree.getD k.toNat Nd.none).kids.getD 0 0)).2]] (by kernel_rfl) ?_)
      (repeat' ((conv => whnf); first | (refine Ob.auto ?_) | (refine Ob.intro (by (first | exact ⟨by omega, by omega⟩ | exact ⟨_, ih _ (by omega) (by omega) (by omega), by rfl, LeL.refl _⟩)) ?_) | (refine call_eq (fun _ => rfl) 600 (rtrim_con _ _) (by rfl) (by kernel_rfl) ?_) | (refine gcall_eq (fun _ => rfl) 600 (fun hg => rtrim_con _ _) (by rfl) rflsA (by kernel_rfl) ?_) | (refine draw_nc (fun _ => rfl) (by kernel_rfl) 600 (by rfl) (by kernel_rfl) ?_) | (refine Br.intro (fun hb => ?_) (fun hb => ?_) <;> (try simp [-List.getD_eq_getElem?_getD] at hb) <;> (try (exfalso; omega))) | (refine Ob.intro ?_ ?_)))
      refine Le.of_eq ?_
      rw [valN, if_neg (by assumption), if_neg (by assumption), if_neg (by assumption), if_pos (by assumption)]; rfl
    · have hk := h20 (.inr (by assumption))
      have hb0 := hvb ((m.tree.getD k.toNat Nd.none).kids.getD 0 0)
      have hv := valN_21 m p s n k (by assumption)
      ((conv => whnf); refine draw_ex (fun _ => rfl) (by kernel_rfl) 600 [.tup [iv (valN m p s n ((m.tree.getD k.toNat Nd.none).kids.getD 0 0)).1, .bool (valN m p s n ((m.tree.getD k.toNat Nd.none).kids.getD 0 0)).2]] (by kernel_rfl) ?_)
      (repeat' ((conv => whnf); first | (refine Ob.auto ?_) | (refine Ob.intro (by (first | exact ⟨by omega, by omega⟩ | exact ⟨_, ih _ (by omega) (by omega) (by omega), by rfl, LeL.refl _⟩)) ?_) | (refine call_eq (fun _ => rfl) 600 (one_con _) (by rfl) (by kernel_rfl) ?_) | (refine gcall_eq (fun _ => rfl) 600 (fun hg => one_con _) (by rfl) rflsA (by kernel_rfl) ?_) | (refine draw_nc (fun _ => rfl) (by kernel_rfl) 600 (by rfl) (by kernel_rfl) ?_) | (refine Br.intro (fun hb => ?_) (fun hb => ?_) <;> (try simp [-List.getD_eq_getElem?_getD] at hb) <;> (try (exfalso; omega))) | (refine Ob.intro ?_ ?_)))
      refine Le.of_eq ?_
      rw [hv]; rfl
    · have hk := h22 (by assumption)
      have hb0 := hvb ((m.tree.getD k.toNat Nd.none).kids.getD 0 0)
      have hb1 := hvb ((m.tree.getD k.toNat Nd.none).kids.getD 1 0)
      have hv := valN_22 m p s n k (by assumption)
      have hnt : (m.tree.getD k.toNat Nd.none).nums.getD (Int.toNat 0) 0 = (m.tree.getD k.toNat Nd.none).nums.getD 0 0 := rfl
      rw [hv]
      generalize hA : valN m p s n ((m.tree.getD k.toNat Nd.none).kids.getD 0 0) = A at hb0 hv ⊢
      generalize hB : valN m p s n ((m.tree.getD k.toNat Nd.none).kids.getD 1 0) = B at hb1 hv ⊢
      have ihA := ih ((m.tree.getD k.toNat Nd.none).kids.getD 0 0) (by omega) (by omega) (by omega)
      have ihB := ih ((m.tree.getD k.toNat Nd.none).kids.getD 1 0) (by omega) (by omega) (by omega)
      rw [hA] at ihA
      rw [hB] at ihB
      obtain ⟨a, x⟩ := A
      obtain ⟨b, y⟩ := B
      simp only at hb0 hb1
      ((conv => whnf); refine draw_ex (fun _ => rfl) (by kernel_rfl) 600 [.tup [iv a, .bool x]] (by kernel_rfl) ?_)
      (repeat' ((conv => whnf); first | (refine Ob.auto ?_) | (refine Ob.intro (by (first | exact ⟨by omega, by omega⟩ | exact ⟨_, ihA, by rfl, LeL.refl _⟩)) ?_) | (refine draw_nc (fun _ => rfl) (by kernel_rfl) 600 (by rfl) (by kernel_rfl) ?_) | (refine Br.intro (fun hb => ?_) (fun hb => ?_) <;> (try simp [-List.getD_eq_getElem?_getD] at hb) <;> (try (exfalso; omega))) | (refine Ob.intro ?_ ?_)))
      ((conv => whnf); refine draw_ex (fun _ => rfl) (by kernel_rfl) 600 [.tup [iv b, .bool y]] (by kernel_rfl) ?_)
      (repeat' ((conv => whnf); first | (refine Ob.auto ?_) | (refine Ob.intro (by (first | exact ⟨by omega, by omega⟩ | exact ⟨_, ihB, by rfl, LeL.refl _⟩ | exact inR_i64 (by omega) (by omega))) ?_) | (refine call_eq (fun _ => rfl) 600 (one_con _) (by rfl) (by kernel_rfl) ?_) | (refine gcall_eq (fun _ => rfl) 600 (fun hg => one_con _) (by rfl) rflsA (by kernel_rfl) ?_) | (refine call_eq (fun _ => rfl) 600 (do_con _ _ _ (by omega) (by omega)) (by rfl) (by kernel_rfl) ?_) | (refine gcall_eq (fun _ => rfl) 600 (fun hg => do_con _ _ _ (by omega) (by omega)) (by rfl) rflsA (by kernel_rfl) ?_) | (refine draw_nc (fun _ => rfl) (by kernel_rfl) 600 (by rfl) (by kernel_rfl) ?_) | (refine Br.intro (fun hb => ?_) (fun hb => ?_) <;> (try simp [-List.getD_eq_getElem?_getD] at hb) <;> (try (exfalso; omega))) | (refine Ob.intro ?_ ?_)))
      all_goals
        refine Le.of_eq ?_
        clear ih ihA ihB hm hs hnd h17 h18 h20 h22 hvb hA hB hv
        have hs8 := hk.2.2.2
        first
          | (rw [binF_not _ hs8 (by assumption)]; rfl)
          | (rw [binF_yes _ (And.left (by assumption))]
             first
               | (rw [applyF_do _ _ _ hs8 (by omega) (by omega)]; rfl)
               | (rw [‹(m.tree.getD k.toNat Nd.none).nums.getD 0 0 = _›]; rfl))
    · refine Le.of_eq ?_
      rw [valN, if_neg (by assumption), if_neg (by assumption), if_neg (by assumption), if_neg (by assumption), if_neg (by assumption), if_neg (by assumption)]; rfl

end Go.Proofs.Ytdoaagphhjggbaa
