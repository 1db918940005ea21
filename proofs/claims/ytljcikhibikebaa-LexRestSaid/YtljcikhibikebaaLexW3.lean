/- Contract of the lexer: its tokens are the plain function's. -/
import Derived.Test.YtljcikhibikebaaLexW2
namespace Go.Proofs.Ytljcikhibikebaa
open Go.Sx Go.RowKit
set_option maxRecDepth 100000

theorem tokens_con (s : List UInt8) (hs : s.length ≤ 1000000) : Con Try.prog 9 [.str s] (Lx.lexAV s) := by
  have hfit := Lx.skipN_le s
  refine con_of_exec (T := tab Try.prog) (C := {owns := [(4, (35, 3))]}) 300 (fun _ => rfl) Try.func9 rfl (by kernel_rfl) (by kernel_rfl) (fun c0 rdb => ?_)
  repeat' ((conv => whnf); first | (refine Ob.intro (by first | exact trivial | rfl | exact fun h => h | (show TI.cmp _ = true; kernel_rfl) | omega | exact And.intro trivial trivial | exact And.intro rfl trivial | ((repeat' (first | exact trivial | exact rfl | (refine And.intro ?_ ?_))); done) | exact inR_i64 (by omega) (by omega) | (intro h; simp at h; omega) | (intro h; (repeat' (first | exact h | exact rfl | (show TI.cmp _ = true; kernel_rfl) | exact inR_i64 (by omega) (by omega) | (refine And.intro ?_ ?_))) <;> first | (have h := of_decide_eq_true h; omega) | (simp at h; omega) | (simp at h; done) | (simp at h ⊢; exact h) | (simp at h ⊢; omega)) | (intro h; rw [h]; rfl) | (intro h; simp [h]; done) | ((try dsimp only); (repeat' (refine And.intro ?_ ?_)) <;> first | omega | (refine Nat.le_trans (Nat.mul_le_mul_right _ (?_ : _ ≤ 4000001)) (by decide +kernel); omega) | rfl) | (intros; simp_all; done) | fail) ?_) | (refine Br.intro (fun hb => ?_) (fun hb => ?_) <;> (try simp at hb) <;> (try (exfalso; omega))) | (refine Ob.intro ?_ ?_))
  · rw [Lx.lexAV, Lx.lexAll, if_pos (by omega)]
    exact Le.tup ⟨Le.nils 3 _, Le.refl _, trivial⟩
  ((conv => whnf); refine call_rule (fun _ => rfl) 300 (skip_con s hs) (by rfl) (by repeat' (first | exact trivial | exact Le.refl _ | (refine And.intro ?_ ?_))) (by kernel_rfl) ?_)
  repeat' ((conv => whnf); first | (refine Ob.intro (by first | exact trivial | rfl | exact fun h => h | (show TI.cmp _ = true; kernel_rfl) | omega | exact And.intro trivial trivial | exact And.intro rfl trivial | ((repeat' (first | exact trivial | exact rfl | (refine And.intro ?_ ?_))); done) | exact inR_i64 (by omega) (by omega) | (intro h; simp at h; omega) | (intro h; (repeat' (first | exact h | exact rfl | (show TI.cmp _ = true; kernel_rfl) | exact inR_i64 (by omega) (by omega) | (refine And.intro ?_ ?_))) <;> first | (have h := of_decide_eq_true h; omega) | (simp at h; omega) | (simp at h; done) | (simp at h ⊢; exact h) | (simp at h ⊢; omega)) | (intro h; rw [h]; rfl) | (intro h; simp [h]; done) | ((try dsimp only); (repeat' (refine And.intro ?_ ?_)) <;> first | omega | (refine Nat.le_trans (Nat.mul_le_mul_right _ (?_ : _ ≤ 4000001)) (by decide +kernel); omega) | rfl) | (intros; simp_all; done) | fail) ?_) | (refine Br.intro (fun hb => ?_) (fun hb => ?_) <;> (try simp at hb) <;> (try (exfalso; omega))) | (refine Ob.intro ?_ ?_))
  (conv => whnf); refine loop_rule (fun _ => rfl) 300 1 (fun g : List Lx.Tok × Nat => ⟨[(0, .str s), (3, .ptr 0 0), (4, .own 1 0 0 g.1.length), (5, .int .i64 g.2)], [(1, .row [] 35 3 0 g.1.length (encL Lx.encTok Lx.tok0 g.1)), (0, .box 26 [.int .i64 0, .int .i64 0])], 2⟩)
    (fun g => g.2 ≤ s.length ∧ Lx.lexR s 0 = Lx.prep g.1 (Lx.lexR (s.drop g.2) g.2) ∧ Lx.skipN (s.drop g.2) = 0 ∧ g.1.length ≤ g.2) (fun g => s.length - g.2) ([], Lx.skipN s) ⟨hfit, by simpa [Lx.prep_nil] using (Lx.lexR_skip s 0).symm, Lx.skip_done s, by simp⟩ (by repeat' (first | exact trivial | exact Le.refl _ | exact Le.of_eq (by congr 1; omega) | exact Le.of_eq (congrArg (AV.int _) (by omega)) | exact Le.of_eq (congrArg (AV.own _ _ _) (by first | omega | (simp; done) | (simp; omega))) | exact Le.of_eq (by first | rfl | (simp; done)) | exact ⟨⟨rfl, rfl, rfl⟩, rfl, rfl, fun _ _ => LeL.refl _⟩ | exact ⟨⟨rfl, rfl, rfl⟩, rfl, rfl, fun i hi => absurd hi (Nat.not_lt_zero i)⟩ | exact ⟨⟨rfl, rfl, rfl⟩, rfl, by simp, fun i hi => LeL.refl _⟩ | exact rfl | (refine And.intro ?_ ?_))) (fun _ => rfl) (by kernel_rfl) ?_
  rintro ⟨acc, p⟩ ⟨hp, hr, hz, hl⟩
  simp only at hp hr hz hl
  repeat' ((conv => whnf); first | (refine Ob.intro (by first | exact trivial | rfl | exact fun h => h | (show TI.cmp _ = true; kernel_rfl) | omega | exact And.intro trivial trivial | exact And.intro rfl trivial | ((repeat' (first | exact trivial | exact rfl | (refine And.intro ?_ ?_))); done) | exact inR_i64 (by omega) (by omega) | (intro h; simp at h; omega) | (intro h; (repeat' (first | exact h | exact rfl | (show TI.cmp _ = true; kernel_rfl) | exact inR_i64 (by omega) (by omega) | (refine And.intro ?_ ?_))) <;> first | (have h := of_decide_eq_true h; omega) | (simp at h; omega) | (simp at h; done) | (simp at h ⊢; exact h) | (simp at h ⊢; omega)) | (intro h; rw [h]; rfl) | (intro h; simp [h]; done) | ((try dsimp only); (repeat' (refine And.intro ?_ ?_)) <;> first | omega | (refine Nat.le_trans (Nat.mul_le_mul_right _ (?_ : _ ≤ 4000001)) (by decide +kernel); omega) | rfl) | (intros; simp_all; done) | fail) ?_) | (refine Br.intro (fun hb => ?_) (fun hb => ?_) <;> (try simp at hb) <;> (try (exfalso; omega))) | (refine Ob.intro ?_ ?_))
  · obtain ⟨b, hd, -⟩ := Lx.drop_cons hb
    generalize s.drop (p + 1) = r at hd
    have hlen := congrArg List.length hd
    simp only [List.length_drop, List.length_cons] at hlen
    rw [hd] at hr hz
    rw [Lx.lexR_tok hz] at hr
    have hn := Lx.firstN_le b r
    have hk := Lx.firstK_range (b :: r)
    rw [List.length_cons] at hn
    (conv => whnf)
    refine call_rule (fun _ => rfl) 300 (first_con b r (by omega)) (by rfl) ⟨Le.of_eq (by rw [← hd]; rfl), trivial⟩ (by kernel_rfl) ?_
    repeat' ((conv => whnf); first | (refine Ob.intro (by first | exact trivial | rfl | exact fun h => h | (show TI.cmp _ = true; kernel_rfl) | omega | exact And.intro trivial trivial | exact And.intro rfl trivial | ((repeat' (first | exact trivial | exact rfl | (refine And.intro ?_ ?_))); done) | exact inR_i64 (by omega) (by omega) | (intro h; simp at h; omega) | (intro h; (repeat' (first | exact h | exact rfl | (show TI.cmp _ = true; kernel_rfl) | exact inR_i64 (by omega) (by omega) | (refine And.intro ?_ ?_))) <;> first | (have h := of_decide_eq_true h; omega) | (simp at h; omega) | (simp at h; done) | (simp at h ⊢; exact h) | (simp at h ⊢; omega)) | (intro h; rw [h]; rfl) | (intro h; simp [h]; done) | ((try dsimp only); (repeat' (refine And.intro ?_ ?_)) <;> first | omega | (refine Nat.le_trans (Nat.mul_le_mul_right _ (?_ : _ ≤ 4000001)) (by decide +kernel); omega) | rfl) | (intros; simp_all; done) | fail) ?_) | (refine Br.intro (fun hb => ?_) (fun hb => ?_) <;> (try simp at hb) <;> (try (exfalso; omega))) | (refine Ob.intro ?_ ?_))
    · rw [if_pos hb] at hr
      rw [Lx.lexAV, Lx.lexAll, if_neg (by omega), hr]
      exact Le.tup ⟨Le.nils 3 _, Le.refl _, trivial⟩
    · rw [if_neg hb, Lx.prep_snoc] at hr
      generalize hnn : Lx.firstN (b :: r) = n at *
      have hq : ((p : Int) + (n : Int)).toNat = p + n := by omega
      have hdr : s.drop (p + n) = (b :: r).drop n := by rw [← hd, List.drop_drop]
      have htk : (s.take (p + n)).drop p = (b :: r).take n := by rw [← hd, List.drop_take, Nat.add_sub_cancel_left]
      have hsk := Lx.skipN_le (s.drop (p + n))
      rw [List.length_drop] at hsk
      (conv => whnf)
      refine call_rule (fun _ => rfl) 300 (skip_con (s.drop (p + n)) (by rw [List.length_drop]; omega)) (by rfl) ⟨Le.of_eq (by rw [← hq]), trivial⟩ (by kernel_rfl) ?_
      repeat' ((conv => whnf); first | (refine Ob.intro (by first | exact trivial | rfl | exact fun h => h | (show TI.cmp _ = true; kernel_rfl) | omega | exact And.intro trivial trivial | exact And.intro rfl trivial | ((repeat' (first | exact trivial | exact rfl | (refine And.intro ?_ ?_))); done) | exact inR_i64 (by omega) (by omega) | (intro h; simp at h; omega) | (intro h; (repeat' (first | exact h | exact rfl | (show TI.cmp _ = true; kernel_rfl) | exact inR_i64 (by omega) (by omega) | (refine And.intro ?_ ?_))) <;> first | (have h := of_decide_eq_true h; omega) | (simp at h; omega) | (simp at h; done) | (simp at h ⊢; exact h) | (simp at h ⊢; omega)) | (intro h; rw [h]; rfl) | (intro h; simp [h]; done) | ((try dsimp only); (repeat' (refine And.intro ?_ ?_)) <;> first | omega | (refine Nat.le_trans (Nat.mul_le_mul_right _ (?_ : _ ≤ 4000001)) (by decide +kernel); omega) | rfl) | (intros; simp_all; done) | fail) ?_) | (refine Br.intro (fun hb => ?_) (fun hb => ?_) <;> (try simp at hb) <;> (try (exfalso; omega))) | (refine Ob.intro ?_ ?_))
      (conv => whnf); refine Exists.intro (acc ++ [⟨Lx.firstK (b :: r), (b :: r).take n, p⟩], p + n + Lx.skipN (s.drop (p + n))) ⟨⟨by omega, ?_, ?_, ?_⟩, ?_, by omega⟩
      · rw [hr, ← hdr, ← Lx.lexR_skip (s.drop (p + n)) (p + n), List.drop_drop]
      · have := Lx.skip_done (s.drop (p + n))
        rwa [List.drop_drop] at this
      · simp; omega
      · refine ⟨(by repeat' (first | exact trivial | exact Le.refl _ | exact Le.of_eq (by congr 1; omega) | exact Le.of_eq (congrArg (AV.int _) (by omega)) | exact Le.of_eq (congrArg (AV.own _ _ _) (by first | omega | (simp; done) | (simp; omega))) | exact Le.of_eq (by first | rfl | (simp; done)) | exact ⟨⟨rfl, rfl, rfl⟩, rfl, rfl, fun _ _ => LeL.refl _⟩ | exact ⟨⟨rfl, rfl, rfl⟩, rfl, rfl, fun i hi => absurd hi (Nat.not_lt_zero i)⟩ | exact ⟨⟨rfl, rfl, rfl⟩, rfl, by simp, fun i hi => LeL.refl _⟩ | exact rfl | (refine And.intro ?_ ?_))), ⟨⟨rfl, rfl, rfl⟩, rfl, by simp, fun i _ => LeL.of_eq (congrFun (appF_snoc Lx.encTok Lx.tok0 acc ⟨Lx.firstK (b :: r), (b :: r).take n, p⟩ _ ?_) i)⟩, (by repeat' (first | exact trivial | exact Le.refl _ | exact Le.of_eq (by congr 1; omega) | exact Le.of_eq (congrArg (AV.int _) (by omega)) | exact Le.of_eq (congrArg (AV.own _ _ _) (by first | omega | (simp; done) | (simp; omega))) | exact Le.of_eq (by first | rfl | (simp; done)) | exact ⟨⟨rfl, rfl, rfl⟩, rfl, rfl, fun _ _ => LeL.refl _⟩ | exact ⟨⟨rfl, rfl, rfl⟩, rfl, rfl, fun i hi => absurd hi (Nat.not_lt_zero i)⟩ | exact ⟨⟨rfl, rfl, rfl⟩, rfl, by simp, fun i hi => LeL.refl _⟩ | exact rfl | (refine And.intro ?_ ?_)))⟩
        refine congrArg (fun x => [AV.int .i64 (Lx.firstK (b :: r)), AV.str x, AV.int .i64 p]) ?_
        rw [← htk, ← hq]; rfl
  · have hpe : p = s.length := by omega
    subst hpe
    rw [List.drop_length, Lx.lexR_nil] at hr
    rw [Lx.lexAV, Lx.lexAll, if_neg (by omega), hr]
    refine Le.tup (ys := [_, _]) ⟨Le.of_eq (Eq.trans (congrArg (AV.slc 3 (acc.length + 1)) (appF_snoc Lx.encTok Lx.tok0 acc ⟨3, [], s.length⟩ _ rfl)) ?_), Le.refl _, trivial⟩
    simp [Lx.prep, Lx.toks, slcL]

end Go.Proofs.Ytljcikhibikebaa
