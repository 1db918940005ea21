/- The law on texts that are cut, by its function. -/
import Derived.Test.YtljcikhibikebaaLexN1
import Derived.Test.YtljcikhibikebaaLexL1
import Derived.Test.YtljcikhibikebaaLexH0
namespace Go.Proofs.Ytljcikhibikebaa
open Go.Sx Go.RowKit
set_option maxRecDepth 100000
set_option maxHeartbeats 1000000

theorem cut_row (ts : List Lx.Tok) (k : Nat) (e : Int) (hk : k + 1 < ts.length) (f g : Nat → List AV) (hg : g 0 = [.int .i64 3, .str [], .int .i64 e]) (i : Nat) (hi : i < k + 1 + 1) :
    appF (k + 1) (appF 0 f (k + 1) (encL Lx.encTok Lx.tok0 ts)) 1 g i = encL Lx.encTok Lx.tok0 (ts.take (k + 1) ++ [⟨3, [], e⟩]) i := by
  simp only [appF, encL, List.getD_eq_getElem?_getD]
  by_cases h : i < k + 1
  · rw [if_pos h, if_neg (by omega), if_pos (by omega), List.getElem?_append_left (by simp; omega), List.getElem?_take, if_pos h]
    rfl
  · obtain rfl : i = k + 1 := by omega
    rw [if_neg h, if_pos (by omega), Nat.sub_self, hg, List.getElem?_append_right (by simp; omega), List.length_take, Nat.min_eq_left (by omega), Nat.sub_self]
    rfl

theorem lexRest_con (s : List UInt8) (c : Int) (hc : 0 ≤ c ∧ c ≤ 255) : Con Try.prog 5 [.str s, .int .u8 c] (.bool true) := by
  refine con_of_exec (T := tab Try.prog) (C := {owns := [(62, (35, 3))]}) 400 (fun _ => rfl) Try.func5 rfl (by kernel_rfl) (by kernel_rfl) (fun c0 rdb => ?_)
  repeat' ((conv => whnf); first | (refine Ob.intro (by first | exact trivial | rfl | exact fun h => h | (show TI.cmp _ = true; kernel_rfl) | omega | exact And.intro trivial trivial | exact And.intro rfl trivial | ((repeat' (first | exact trivial | exact rfl | (refine And.intro ?_ ?_))); done) | exact inR_i64 (by omega) (by omega) | (intro h; simp at h; omega) | (intro h; (repeat' (first | exact h | exact rfl | (show TI.cmp _ = true; kernel_rfl) | exact inR_i64 (by omega) (by omega) | (refine And.intro ?_ ?_))) <;> first | (have h := of_decide_eq_true h; omega) | (simp at h; omega) | (simp at h; done) | (simp at h ⊢; exact h) | (simp at h ⊢; omega)) | (intro h; rw [h]; rfl) | (intro h; simp [h]; done) | ((try dsimp only); (repeat' (refine And.intro ?_ ?_)) <;> first | omega | (refine Nat.le_trans (Nat.mul_le_mul_right _ (?_ : _ ≤ 4000001)) (by decide +kernel); omega) | rfl) | (intros; simp_all; done) | fail) ?_) | (refine Br.intro (fun hb => ?_) (fun hb => ?_) <;> (try simp at hb) <;> (try (exfalso; omega))) | (refine Ob.intro ?_ ?_))
  ((conv => whnf); refine call_rule (fun _ => rfl) 400 (awake_con) (by rfl) (by repeat' (first | exact trivial | exact Le.refl _ | (refine And.intro ?_ ?_))) (by kernel_rfl) ?_)
  repeat' ((conv => whnf); first | (refine Ob.intro (by first | exact trivial | rfl | exact fun h => h | (show TI.cmp _ = true; kernel_rfl) | omega | exact And.intro trivial trivial | exact And.intro rfl trivial | ((repeat' (first | exact trivial | exact rfl | (refine And.intro ?_ ?_))); done) | exact inR_i64 (by omega) (by omega) | (intro h; simp at h; omega) | (intro h; (repeat' (first | exact h | exact rfl | (show TI.cmp _ = true; kernel_rfl) | exact inR_i64 (by omega) (by omega) | (refine And.intro ?_ ?_))) <;> first | (have h := of_decide_eq_true h; omega) | (simp at h; omega) | (simp at h; done) | (simp at h ⊢; exact h) | (simp at h ⊢; omega)) | (intro h; rw [h]; rfl) | (intro h; simp [h]; done) | ((try dsimp only); (repeat' (refine And.intro ?_ ?_)) <;> first | omega | (refine Nat.le_trans (Nat.mul_le_mul_right _ (?_ : _ ≤ 4000001)) (by decide +kernel); omega) | rfl) | (intros; simp_all; done) | fail) ?_) | (refine Br.intro (fun hb => ?_) (fun hb => ?_) <;> (try simp at hb) <;> (try (exfalso; omega))) | (refine Ob.intro ?_ ?_))
  · ((conv => whnf); refine call_rule (fun _ => rfl) 400 (awake_con) (by rfl) (by repeat' (first | exact trivial | exact Le.refl _ | (refine And.intro ?_ ?_))) (by kernel_rfl) ?_)
    repeat' ((conv => whnf); first | (refine Ob.intro (by first | exact trivial | rfl | exact fun h => h | (show TI.cmp _ = true; kernel_rfl) | omega | exact And.intro trivial trivial | exact And.intro rfl trivial | ((repeat' (first | exact trivial | exact rfl | (refine And.intro ?_ ?_))); done) | exact inR_i64 (by omega) (by omega) | (intro h; simp at h; omega) | (intro h; (repeat' (first | exact h | exact rfl | (show TI.cmp _ = true; kernel_rfl) | exact inR_i64 (by omega) (by omega) | (refine And.intro ?_ ?_))) <;> first | (have h := of_decide_eq_true h; omega) | (simp at h; omega) | (simp at h; done) | (simp at h ⊢; exact h) | (simp at h ⊢; omega)) | (intro h; rw [h]; rfl) | (intro h; simp [h]; done) | ((try dsimp only); (repeat' (refine And.intro ?_ ?_)) <;> first | omega | (refine Nat.le_trans (Nat.mul_le_mul_right _ (?_ : _ ≤ 4000001)) (by decide +kernel); omega) | rfl) | (intros; simp_all; done) | fail) ?_) | (refine Br.intro (fun hb => ?_) (fun hb => ?_) <;> (try simp at hb) <;> (try (exfalso; omega))) | (refine Ob.intro ?_ ?_))
    exact Le.refl _
  · have hs : s.length ≤ 700 := by omega
    have hto := rtokens_con s (by omega)
    rw [Lx.lexAV, Lx.lexAll, if_neg (by omega)] at hto
    cases hr : Lx.lexR s 0 with
    | error p =>
      rw [hr] at hto
      ((conv => whnf); refine call_rule (fun _ => rfl) 400 (hto) (by rfl) (by repeat' (first | exact trivial | exact Le.refl _ | (refine And.intro ?_ ?_))) (by kernel_rfl) ?_)
      repeat' ((conv => whnf); first | (refine Ob.intro (by first | exact trivial | rfl | exact fun h => h | (show TI.cmp _ = true; kernel_rfl) | omega | exact And.intro trivial trivial | exact And.intro rfl trivial | ((repeat' (first | exact trivial | exact rfl | (refine And.intro ?_ ?_))); done) | exact inR_i64 (by omega) (by omega) | (intro h; simp at h; omega) | (intro h; (repeat' (first | exact h | exact rfl | (show TI.cmp _ = true; kernel_rfl) | exact inR_i64 (by omega) (by omega) | (refine And.intro ?_ ?_))) <;> first | (have h := of_decide_eq_true h; omega) | (simp at h; omega) | (simp at h; done) | (simp at h ⊢; exact h) | (simp at h ⊢; omega)) | (intro h; rw [h]; rfl) | (intro h; simp [h]; done) | ((try dsimp only); (repeat' (refine And.intro ?_ ?_)) <;> first | omega | (refine Nat.le_trans (Nat.mul_le_mul_right _ (?_ : _ ≤ 4000001)) (by decide +kernel); omega) | rfl) | (intros; simp_all; done) | fail) ?_) | (refine Ob.intro ?_ ?_))
      (conv => whnf); refine Br.intro (fun hb => ?_) (fun hb => ?_)
      · repeat' ((conv => whnf); first | (refine Ob.intro (by first | exact trivial | rfl | exact fun h => h | (show TI.cmp _ = true; kernel_rfl) | omega | exact And.intro trivial trivial | exact And.intro rfl trivial | ((repeat' (first | exact trivial | exact rfl | (refine And.intro ?_ ?_))); done) | exact inR_i64 (by omega) (by omega) | (intro h; simp at h; omega) | (intro h; (repeat' (first | exact h | exact rfl | (show TI.cmp _ = true; kernel_rfl) | exact inR_i64 (by omega) (by omega) | (refine And.intro ?_ ?_))) <;> first | (have h := of_decide_eq_true h; omega) | (simp at h; omega) | (simp at h; done) | (simp at h ⊢; exact h) | (simp at h ⊢; omega)) | (intro h; rw [h]; rfl) | (intro h; simp [h]; done) | ((try dsimp only); (repeat' (refine And.intro ?_ ?_)) <;> first | omega | (refine Nat.le_trans (Nat.mul_le_mul_right _ (?_ : _ ≤ 4000001)) (by decide +kernel); omega) | rfl) | (intros; simp_all; done) | fail) ?_) | (refine Br.intro (fun hb => ?_) (fun hb => ?_) <;> (try simp at hb) <;> (try (exfalso; omega))) | (refine Ob.intro ?_ ?_))
        exact Le.refl _
      · exfalso; simp at hb
    | ok ts =>
      rw [hr] at hto
      replace hto : Con Try.prog 10 [.str s] (.tup [Lx.toks ts, .agg [.int .i64 0, .int .i64 0]]) := hto
      have hlen := Lx.lexR_len s 0 ts hr
      ((conv => whnf); refine call_rule (fun _ => rfl) 400 (hto) (by rfl) (by repeat' (first | exact trivial | exact Le.refl _ | (refine And.intro ?_ ?_))) (by kernel_rfl) ?_)
      repeat' ((conv => whnf); first | (refine Ob.intro (by first | exact trivial | rfl | exact fun h => h | (show TI.cmp _ = true; kernel_rfl) | omega | exact And.intro trivial trivial | exact And.intro rfl trivial | ((repeat' (first | exact trivial | exact rfl | (refine And.intro ?_ ?_))); done) | exact inR_i64 (by omega) (by omega) | (intro h; simp at h; omega) | (intro h; (repeat' (first | exact h | exact rfl | (show TI.cmp _ = true; kernel_rfl) | exact inR_i64 (by omega) (by omega) | (refine And.intro ?_ ?_))) <;> first | (have h := of_decide_eq_true h; omega) | (simp at h; omega) | (simp at h; done) | (simp at h ⊢; exact h) | (simp at h ⊢; omega)) | (intro h; rw [h]; rfl) | (intro h; simp [h]; done) | ((try dsimp only); (repeat' (refine And.intro ?_ ?_)) <;> first | omega | (refine Nat.le_trans (Nat.mul_le_mul_right _ (?_ : _ ≤ 4000001)) (by decide +kernel); omega) | rfl) | (intros; simp_all; done) | fail) ?_) | (refine Ob.intro ?_ ?_))
      (conv => whnf); refine Br.intro (fun hb => ?_) (fun hb => ?_)
      · repeat' ((conv => whnf); first | (refine Ob.intro (by first | exact trivial | rfl | exact fun h => h | (show TI.cmp _ = true; kernel_rfl) | omega | exact And.intro trivial trivial | exact And.intro rfl trivial | ((repeat' (first | exact trivial | exact rfl | (refine And.intro ?_ ?_))); done) | exact inR_i64 (by omega) (by omega) | (intro h; simp at h; omega) | (intro h; (repeat' (first | exact h | exact rfl | (show TI.cmp _ = true; kernel_rfl) | exact inR_i64 (by omega) (by omega) | (refine And.intro ?_ ?_))) <;> first | (have h := of_decide_eq_true h; omega) | (simp at h; omega) | (simp at h; done) | (simp at h ⊢; exact h) | (simp at h ⊢; omega)) | (intro h; rw [h]; rfl) | (intro h; simp [h]; done) | ((try dsimp only); (repeat' (refine And.intro ?_ ?_)) <;> first | omega | (refine Nat.le_trans (Nat.mul_le_mul_right _ (?_ : _ ≤ 4000001)) (by decide +kernel); omega) | rfl) | (intros; simp_all; done) | fail) ?_) | (refine Br.intro (fun hb => ?_) (fun hb => ?_) <;> (try simp at hb) <;> (try (exfalso; omega))) | (refine Ob.intro ?_ ?_))
        exact Le.refl _
      · have hl : 2 ≤ ts.length := by
          have : ¬ ((ts.length : Int) < 2) := by simpa using hb
          omega
        obtain ⟨k, hk⟩ : ∃ k : Nat, c.tmod ((ts.length : Int) - 1) = k := Int.eq_ofNat_of_zero_le (Int.tmod_nonneg _ hc.1)
        have hk1 : k + 1 < ts.length := by
          have := Int.tmod_lt_of_pos c (show 0 < (ts.length : Int) - 1 by omega)
          omega
        repeat' ((conv => whnf); first | (refine Ob.intro (by first | exact trivial | rfl | exact fun h => h | (show TI.cmp _ = true; kernel_rfl) | omega | exact And.intro trivial trivial | exact And.intro rfl trivial | ((repeat' (first | exact trivial | exact rfl | (refine And.intro ?_ ?_))); done) | exact inR_i64 (by omega) (by omega) | (intro h; simp at h; omega) | (intro h; (repeat' (first | exact h | exact rfl | (show TI.cmp _ = true; kernel_rfl) | exact inR_i64 (by omega) (by omega) | (refine And.intro ?_ ?_))) <;> first | (have h := of_decide_eq_true h; omega) | (simp at h; omega) | (simp at h; done) | (simp at h ⊢; exact h) | (simp at h ⊢; omega)) | (intro h; rw [h]; rfl) | (intro h; simp [h]; done) | ((try dsimp only); (repeat' (refine And.intro ?_ ?_)) <;> first | omega | (refine Nat.le_trans (Nat.mul_le_mul_right _ (?_ : _ ≤ 4000001)) (by decide +kernel); omega) | rfl) | (intros; simp_all; done) | fail) ?_) | (refine Br.intro (fun hb => ?_) (fun hb => ?_) <;> (try simp at hb) <;> (try (exfalso; omega))) | (refine Ob.intro ?_ ?_))
        rw [hk]
        have hmem : ts.getD k Lx.tok0 ∈ ts := by
          rw [List.getD_eq_getElem?_getD, List.getElem?_eq_getElem (by omega)]
          exact List.getElem_mem _
        have hpos := Lx.lexR_pos s 0 ts hr _ hmem
        obtain ⟨e, he⟩ : ∃ e : Nat, (ts.getD k Lx.tok0).pos + ((ts.getD k Lx.tok0).s.length : Int) = e := Int.eq_ofNat_of_zero_le (by omega)
        have hcut := Lx.lexR_cut s 0 ts hr k e hk1 (by omega)
        ((conv => whnf); refine draw_ex (fun _ => rfl) (by kernel_rfl) 400 [] (by kernel_rfl) ?_)
        repeat' ((conv => whnf); first | (refine Ob.intro (by first | exact trivial | rfl | exact fun h => h | (show TI.cmp _ = true; kernel_rfl) | omega | exact And.intro trivial trivial | exact And.intro rfl trivial | ((repeat' (first | exact trivial | exact rfl | (refine And.intro ?_ ?_))); done) | exact inR_i64 (by omega) (by omega) | (intro h; simp at h; omega) | (intro h; (repeat' (first | exact h | exact rfl | (show TI.cmp _ = true; kernel_rfl) | exact inR_i64 (by omega) (by omega) | (refine And.intro ?_ ?_))) <;> first | (have h := of_decide_eq_true h; omega) | (simp at h; omega) | (simp at h; done) | (simp at h ⊢; exact h) | (simp at h ⊢; omega)) | (intro h; rw [h]; rfl) | (intro h; simp [h]; done) | ((try dsimp only); (repeat' (refine And.intro ?_ ?_)) <;> first | omega | (refine Nat.le_trans (Nat.mul_le_mul_right _ (?_ : _ ≤ 4000001)) (by decide +kernel); omega) | rfl) | (intros; simp_all; done) | fail) ?_) | (refine Br.intro (fun hb => ?_) (fun hb => ?_) <;> (try simp at hb) <;> (try (exfalso; omega))) | (refine Ob.intro ?_ ?_))
        · simp only [Int.toNat_natCast, he]
          exact inR_i64 (by omega) (by omega)
        · simp only [Int.toNat_natCast, he]
          have hto2 := tokens_con (s.take e) (by simp; omega)
          rw [Lx.lexAV, Lx.lexAll, if_neg (by simp; omega), hcut] at hto2
          replace hto2 : Con Try.prog 9 [.str (s.take e)] (.tup [Lx.toks (ts.take (k + 1) ++ [⟨3, [], (0 + e : Nat)⟩]), .agg [.int .i64 0, .int .i64 0]]) := hto2
          obtain ⟨L, hL⟩ : ∃ L : List Lx.Tok, L = ts.take (k + 1) ++ [⟨3, [], e⟩] := ⟨_, rfl⟩
          rw [Nat.zero_add, ← hL] at hto2
          have hLl : L.length = k + 1 + 1 := by rw [hL]; simp; omega
          ((conv => whnf); refine call_rule (fun _ => rfl) 400 (hto2) (by rfl) (by repeat' (first | exact trivial | exact Le.refl _ | (refine And.intro ?_ ?_))) (by kernel_rfl) ?_)
          repeat' ((conv => whnf); first | (refine Ob.intro (by first | exact trivial | rfl | exact fun h => h | (show TI.cmp _ = true; kernel_rfl) | omega | exact And.intro trivial trivial | exact And.intro rfl trivial | ((repeat' (first | exact trivial | exact rfl | (refine And.intro ?_ ?_))); done) | exact inR_i64 (by omega) (by omega) | (intro h; simp at h; omega) | (intro h; (repeat' (first | exact h | exact rfl | (show TI.cmp _ = true; kernel_rfl) | exact inR_i64 (by omega) (by omega) | (refine And.intro ?_ ?_))) <;> first | (have h := of_decide_eq_true h; omega) | (simp at h; omega) | (simp at h; done) | (simp at h ⊢; exact h) | (simp at h ⊢; omega)) | (intro h; rw [h]; rfl) | (intro h; simp [h]; done) | ((try dsimp only); (repeat' (refine And.intro ?_ ?_)) <;> first | omega | (refine Nat.le_trans (Nat.mul_le_mul_right _ (?_ : _ ≤ 4000001)) (by decide +kernel); omega) | rfl) | (intros; simp_all; done) | fail) ?_) | (refine Ob.intro ?_ ?_))
          (conv => whnf); refine Br.intro (fun hb => ?_) (fun hb => ?_)
          · repeat' ((conv => whnf); first | (refine Ob.intro (by first | exact trivial | rfl | exact fun h => h | (show TI.cmp _ = true; kernel_rfl) | omega | exact And.intro trivial trivial | exact And.intro rfl trivial | ((repeat' (first | exact trivial | exact rfl | (refine And.intro ?_ ?_))); done) | exact inR_i64 (by omega) (by omega) | (intro h; simp at h; omega) | (intro h; (repeat' (first | exact h | exact rfl | (show TI.cmp _ = true; kernel_rfl) | exact inR_i64 (by omega) (by omega) | (refine And.intro ?_ ?_))) <;> first | (have h := of_decide_eq_true h; omega) | (simp at h; omega) | (simp at h; done) | (simp at h ⊢; exact h) | (simp at h ⊢; omega)) | (intro h; rw [h]; rfl) | (intro h; simp [h]; done) | ((try dsimp only); (repeat' (refine And.intro ?_ ?_)) <;> first | omega | (refine Nat.le_trans (Nat.mul_le_mul_right _ (?_ : _ ≤ 4000001)) (by decide +kernel); omega) | rfl) | (intros; simp_all; done) | fail) ?_) | (refine Br.intro (fun hb => ?_) (fun hb => ?_) <;> (try simp at hb) <;> (try (exfalso; omega))) | (refine Ob.intro ?_ ?_))
            · (conv => whnf)
              have hkn : ((k : Int) + 1).toNat = k + 1 := by omega
              refine gcall_lend (fun _ => rfl) 400 (args' := [Lx.toks L, Lx.toks L]) (fun _ => same_con L (by omega)) (fun _ => ?_) (fun hg => And.intro (Le.cnd hg) (And.intro ?_ trivial)) (by rfl) (by kernel_rfl) ?_
              · exact ⟨fun _ => trivial, ⟨trivial, ⟨rfl, rfl⟩, trivial⟩, trivial⟩
              · refine Le.slc (by omega) (fun i hi => ?_)
                have h := cut_row ts k e hk1 (chop (1 + 1 + 1) []) (chop (1 + 1 + 1) [AV.int .i64 3, AV.str [], AV.int .i64 e]) rfl i (by omega)
                rw [← hL] at h
                rw [← h, Nat.zero_add, hkn]
              · repeat' ((conv => whnf); first | (refine Ob.intro (by first | exact trivial | rfl | exact fun h => h | (show TI.cmp _ = true; kernel_rfl) | omega | exact And.intro trivial trivial | exact And.intro rfl trivial | ((repeat' (first | exact trivial | exact rfl | (refine And.intro ?_ ?_))); done) | exact inR_i64 (by omega) (by omega) | (intro h; simp at h; omega) | (intro h; (repeat' (first | exact h | exact rfl | (show TI.cmp _ = true; kernel_rfl) | exact inR_i64 (by omega) (by omega) | (refine And.intro ?_ ?_))) <;> first | (have h := of_decide_eq_true h; omega) | (simp at h; omega) | (simp at h; done) | (simp at h ⊢; exact h) | (simp at h ⊢; omega)) | (intro h; rw [h]; rfl) | (intro h; simp [h]; done) | ((try dsimp only); (repeat' (refine And.intro ?_ ?_)) <;> first | omega | (refine Nat.le_trans (Nat.mul_le_mul_right _ (?_ : _ ≤ 4000001)) (by decide +kernel); omega) | rfl) | (intros; simp_all; done) | fail) ?_) | (refine Ob.intro ?_ ?_))
                exact Le.of_eq (congrArg AV.bool rfl)
          · exfalso; simp at hb

end Go.Proofs.Ytljcikhibikebaa
