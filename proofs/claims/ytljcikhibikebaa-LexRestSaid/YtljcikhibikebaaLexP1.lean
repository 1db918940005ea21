/- Contracts on places, keywords and names. -/
import Derived.Test.YtljcikhibikebaaLexP0
import Derived.Test.YtljcikhibikebaaSxExt2
import Derived.Test.YtljcikhibikebaaLexR3
namespace Go.Proofs.Ytljcikhibikebaa
open Go.Sx Go.RowKit
set_option maxRecDepth 100000

theorem balg_count (l : List UInt8) (c : Int) : Con Try.prog 33 [.str l, .int .u8 c] (.int .i64 (Lib.countByte l c.toNat.toUInt8)) :=
  con_countByte Try.func33 (by kernel_rfl) (by kernel_rfl) (by kernel_rfl) (by kernel_rfl) l c

theorem count_con (l : List UInt8) : Con Try.prog 27 [.str l, .str [10]] (.int .i64 (Lx.cntN l)) := by
  refine con_of_exec (T := tab Try.prog) (C := {}) 100 (fun _ => rfl) Try.func27 rfl (by kernel_rfl) (by kernel_rfl) (fun c0 rdb => ?_)
  repeat' ((conv => whnf); first | (refine Ob.intro (by first | exact trivial | rfl | exact fun h => h | (show TI.cmp _ = true; kernel_rfl) | omega | exact And.intro trivial trivial | exact And.intro rfl trivial | ((repeat' (first | exact trivial | exact rfl | (refine And.intro ?_ ?_))); done) | exact inR_i64 (by omega) (by omega) | (intro h; simp at h; omega) | (intro h; (repeat' (first | exact h | exact rfl | (show TI.cmp _ = true; kernel_rfl) | exact inR_i64 (by omega) (by omega) | (refine And.intro ?_ ?_))) <;> first | (have h := of_decide_eq_true h; omega) | (simp at h; omega) | (simp at h; done) | (simp at h ⊢; exact h) | (simp at h ⊢; omega)) | (intro h; rw [h]; rfl) | (intro h; simp [h]; done) | ((try dsimp only); (repeat' (refine And.intro ?_ ?_)) <;> first | omega | (refine Nat.le_trans (Nat.mul_le_mul_right _ (?_ : _ ≤ 4000001)) (by decide +kernel); omega) | rfl) | (intros; simp_all; done) | fail) ?_) | (refine Br.intro (fun hb => ?_) (fun hb => ?_) <;> (try simp at hb) <;> (try (exfalso; omega))) | (refine Ob.intro ?_ ?_))
  ((conv => whnf); refine call_rule (fun _ => rfl) 100 (balg_count l 10) (by rfl) (by repeat' (first | exact trivial | exact Le.refl _ | (refine And.intro ?_ ?_))) (by kernel_rfl) ?_)
  repeat' ((conv => whnf); first | (refine Ob.intro (by first | exact trivial | rfl | exact fun h => h | (show TI.cmp _ = true; kernel_rfl) | omega | exact And.intro trivial trivial | exact And.intro rfl trivial | ((repeat' (first | exact trivial | exact rfl | (refine And.intro ?_ ?_))); done) | exact inR_i64 (by omega) (by omega) | (intro h; simp at h; omega) | (intro h; (repeat' (first | exact h | exact rfl | (show TI.cmp _ = true; kernel_rfl) | exact inR_i64 (by omega) (by omega) | (refine And.intro ?_ ?_))) <;> first | (have h := of_decide_eq_true h; omega) | (simp at h; omega) | (simp at h; done) | (simp at h ⊢; exact h) | (simp at h ⊢; omega)) | (intro h; rw [h]; rfl) | (intro h; simp [h]; done) | ((try dsimp only); (repeat' (refine And.intro ?_ ?_)) <;> first | omega | (refine Nat.le_trans (Nat.mul_le_mul_right _ (?_ : _ ≤ 4000001)) (by decide +kernel); omega) | rfl) | (intros; simp_all; done) | fail) ?_) | (refine Br.intro (fun hb => ?_) (fun hb => ?_) <;> (try simp at hb) <;> (try (exfalso; omega))) | (refine Ob.intro ?_ ?_))
  exact Le.refl _

theorem balg_last (l : List UInt8) (hl : l.length ≤ 1000000) : Con Try.prog 35 [.str l, .int .u8 10] (.int .i64 ((l.length : Int) - (Lx.colN l : Int))) := by
  refine con_of_exec (T := tab Try.prog) (C := {}) 100 (fun _ => rfl) Try.func35 rfl (by kernel_rfl) (by kernel_rfl) (fun c0 rdb => ?_)
  repeat' ((conv => whnf); first | (refine Ob.intro (by first | exact trivial | rfl | exact fun h => h | (show TI.cmp _ = true; kernel_rfl) | omega | exact And.intro trivial trivial | exact And.intro rfl trivial | ((repeat' (first | exact trivial | exact rfl | (refine And.intro ?_ ?_))); done) | exact inR_i64 (by omega) (by omega) | (intro h; simp at h; omega) | (intro h; (repeat' (first | exact h | exact rfl | (show TI.cmp _ = true; kernel_rfl) | exact inR_i64 (by omega) (by omega) | (refine And.intro ?_ ?_))) <;> first | (have h := of_decide_eq_true h; omega) | (simp at h; omega) | (simp at h; done) | (simp at h ⊢; exact h) | (simp at h ⊢; omega)) | (intro h; rw [h]; rfl) | (intro h; simp [h]; done) | ((try dsimp only); (repeat' (refine And.intro ?_ ?_)) <;> first | omega | (refine Nat.le_trans (Nat.mul_le_mul_right _ (?_ : _ ≤ 4000001)) (by decide +kernel); omega) | rfl) | (intros; simp_all; done) | fail) ?_) | (refine Br.intro (fun hb => ?_) (fun hb => ?_) <;> (try simp at hb) <;> (try (exfalso; omega))) | (refine Ob.intro ?_ ?_))
  (conv => whnf); refine loop_rule (fun _ => rfl) 100 1 (fun k : Nat => ⟨[(0, .str l), (1, .int .u8 10), (5, .int .i64 ((k : Int) - 1))], [], 0⟩)
    (fun k => k ≤ l.length ∧ Lx.colN l = (l.length - k) + Lx.colN (l.take k)) (fun k => k) l.length ⟨by omega, by simp⟩ (by repeat' (first | exact trivial | exact Le.refl _ | exact Le.of_eq (by congr 1; omega) | exact Le.of_eq (congrArg (AV.int _) (by omega)) | exact Le.of_eq (congrArg (AV.own _ _ _) (by first | omega | (simp; done) | (simp; omega))) | exact Le.of_eq (by first | rfl | (simp; done)) | exact ⟨⟨rfl, rfl, rfl⟩, rfl, rfl, fun _ _ => LeL.refl _⟩ | exact ⟨⟨rfl, rfl, rfl⟩, rfl, rfl, fun i hi => absurd hi (Nat.not_lt_zero i)⟩ | exact ⟨⟨rfl, rfl, rfl⟩, rfl, by simp, fun i hi => LeL.refl _⟩ | exact rfl | (refine And.intro ?_ ?_))) (fun _ => rfl) (by kernel_rfl) ?_
  rintro k ⟨hk, hc⟩
  repeat' ((conv => whnf); first | (refine Ob.intro (by first | exact trivial | rfl | exact fun h => h | (show TI.cmp _ = true; kernel_rfl) | omega | exact And.intro trivial trivial | exact And.intro rfl trivial | ((repeat' (first | exact trivial | exact rfl | (refine And.intro ?_ ?_))); done) | exact inR_i64 (by omega) (by omega) | (intro h; simp at h; omega) | (intro h; (repeat' (first | exact h | exact rfl | (show TI.cmp _ = true; kernel_rfl) | exact inR_i64 (by omega) (by omega) | (refine And.intro ?_ ?_))) <;> first | (have h := of_decide_eq_true h; omega) | (simp at h; omega) | (simp at h; done) | (simp at h ⊢; exact h) | (simp at h ⊢; omega)) | (intro h; rw [h]; rfl) | (intro h; simp [h]; done) | ((try dsimp only); (repeat' (refine And.intro ?_ ?_)) <;> first | omega | (refine Nat.le_trans (Nat.mul_le_mul_right _ (?_ : _ ≤ 4000001)) (by decide +kernel); omega) | rfl) | (intros; simp_all; done) | fail) ?_) | (refine Br.intro (fun hb => ?_) (fun hb => ?_) <;> (try simp at hb) <;> (try (exfalso; omega))) | (refine Ob.intro ?_ ?_))
  · have h1 : k - 1 < l.length := by omega
    have hs := Lx.colN_step h1
    rw [Nat.sub_add_cancel (by omega)] at hs
    have hby := Lx.byteAt_get h1
    rw [show ((k - 1 : Nat) : Int) = (k : Int) - 1 by omega] at hby
    rw [hby] at hb
    have hb' : l[k - 1] = 10 := by have := Lx.isTen l[k - 1]; simp_all
    rw [if_pos hb'] at hs
    refine Le.of_eq (congrArg (AV.int .i64) ?_)
    omega
  · have h1 : k - 1 < l.length := by omega
    have hs := Lx.colN_step h1
    rw [Nat.sub_add_cancel (by omega)] at hs
    have hby := Lx.byteAt_get h1
    rw [show ((k - 1 : Nat) : Int) = (k : Int) - 1 by omega] at hby
    rw [hby] at hb
    have hb' : l[k - 1] ≠ 10 := fun e => hb (by rw [e]; rfl)
    rw [if_neg hb'] at hs
    (conv => whnf); refine Exists.intro (k - 1) ⟨⟨by omega, by omega⟩, (by repeat' (first | exact trivial | exact Le.refl _ | exact Le.of_eq (by congr 1; omega) | exact Le.of_eq (congrArg (AV.int _) (by omega)) | exact Le.of_eq (congrArg (AV.own _ _ _) (by first | omega | (simp; done) | (simp; omega))) | exact Le.of_eq (by first | rfl | (simp; done)) | exact ⟨⟨rfl, rfl, rfl⟩, rfl, rfl, fun _ _ => LeL.refl _⟩ | exact ⟨⟨rfl, rfl, rfl⟩, rfl, rfl, fun i hi => absurd hi (Nat.not_lt_zero i)⟩ | exact ⟨⟨rfl, rfl, rfl⟩, rfl, by simp, fun i hi => LeL.refl _⟩ | exact rfl | (refine And.intro ?_ ?_))), by omega⟩
  · obtain rfl : k = 0 := by omega
    refine Le.of_eq (congrArg (AV.int .i64) ?_)
    simp [Lx.colN] at hc ⊢
    omega

theorem last_con (l : List UInt8) (hl : l.length ≤ 1000000) : Con Try.prog 28 [.str l, .int .u8 10] (.int .i64 ((l.length : Int) - (Lx.colN l : Int))) := by
  refine con_of_exec (T := tab Try.prog) (C := {}) 100 (fun _ => rfl) Try.func28 rfl (by kernel_rfl) (by kernel_rfl) (fun c0 rdb => ?_)
  repeat' ((conv => whnf); first | (refine Ob.intro (by first | exact trivial | rfl | exact fun h => h | (show TI.cmp _ = true; kernel_rfl) | omega | exact And.intro trivial trivial | exact And.intro rfl trivial | ((repeat' (first | exact trivial | exact rfl | (refine And.intro ?_ ?_))); done) | exact inR_i64 (by omega) (by omega) | (intro h; simp at h; omega) | (intro h; (repeat' (first | exact h | exact rfl | (show TI.cmp _ = true; kernel_rfl) | exact inR_i64 (by omega) (by omega) | (refine And.intro ?_ ?_))) <;> first | (have h := of_decide_eq_true h; omega) | (simp at h; omega) | (simp at h; done) | (simp at h ⊢; exact h) | (simp at h ⊢; omega)) | (intro h; rw [h]; rfl) | (intro h; simp [h]; done) | ((try dsimp only); (repeat' (refine And.intro ?_ ?_)) <;> first | omega | (refine Nat.le_trans (Nat.mul_le_mul_right _ (?_ : _ ≤ 4000001)) (by decide +kernel); omega) | rfl) | (intros; simp_all; done) | fail) ?_) | (refine Br.intro (fun hb => ?_) (fun hb => ?_) <;> (try simp at hb) <;> (try (exfalso; omega))) | (refine Ob.intro ?_ ?_))
  ((conv => whnf); refine call_rule (fun _ => rfl) 100 (balg_last l hl) (by rfl) (by repeat' (first | exact trivial | exact Le.refl _ | (refine And.intro ?_ ?_))) (by kernel_rfl) ?_)
  repeat' ((conv => whnf); first | (refine Ob.intro (by first | exact trivial | rfl | exact fun h => h | (show TI.cmp _ = true; kernel_rfl) | omega | exact And.intro trivial trivial | exact And.intro rfl trivial | ((repeat' (first | exact trivial | exact rfl | (refine And.intro ?_ ?_))); done) | exact inR_i64 (by omega) (by omega) | (intro h; simp at h; omega) | (intro h; (repeat' (first | exact h | exact rfl | (show TI.cmp _ = true; kernel_rfl) | exact inR_i64 (by omega) (by omega) | (refine And.intro ?_ ?_))) <;> first | (have h := of_decide_eq_true h; omega) | (simp at h; omega) | (simp at h; done) | (simp at h ⊢; exact h) | (simp at h ⊢; omega)) | (intro h; rw [h]; rfl) | (intro h; simp [h]; done) | ((try dsimp only); (repeat' (refine And.intro ?_ ?_)) <;> first | omega | (refine Nat.le_trans (Nat.mul_le_mul_right _ (?_ : _ ≤ 4000001)) (by decide +kernel); omega) | rfl) | (intros; simp_all; done) | fail) ?_) | (refine Br.intro (fun hb => ?_) (fun hb => ?_) <;> (try simp at hb) <;> (try (exfalso; omega))) | (refine Ob.intro ?_ ?_))
  exact Le.refl _

theorem place_con (s : List UInt8) (p : Int) (hs : s.length ≤ 1000000) : Con Try.prog 13 [.str s, .int .i64 p] (.tup [.int .i64 (1 + (Lx.cntN (Lx.ahead s p) : Int)), .int .i64 (Lx.colN (Lx.ahead s p) : Int)]) := by
  have ht : s.take (min (max p 0) (s.length : Int)).toNat = Lx.ahead s p := by
    rw [Lx.ahead]
    by_cases h : (max p 0) ≤ (s.length : Int)
    · rw [Int.min_eq_left h]
    · rw [Int.min_eq_right (by omega), List.take_of_length_le (by omega), List.take_of_length_le (by omega)]
  have hl := Lx.ahead_len s p
  have hc := Lx.cntN_le (Lx.ahead s p)
  have hk := Lx.colN_le (Lx.ahead s p)
  refine con_of_exec (T := tab Try.prog) (C := {}) 100 (fun _ => rfl) Try.func13 rfl (by kernel_rfl) (by kernel_rfl) (fun c0 rdb => ?_)
  repeat' ((conv => whnf); first | (refine Ob.intro (by simp only [cond_true, cond_false]; omega) ?_))
  (conv => whnf)
  refine call_rule (fun _ => rfl) 100 (count_con (Lx.ahead s p)) (by rfl) ⟨Le.of_eq (by simp only [cond_true, cond_false]; rw [ht]), Le.refl _, trivial⟩ (by kernel_rfl) ?_
  repeat' ((conv => whnf); first | (refine Ob.intro (by first | exact trivial | rfl | exact fun h => h | (show TI.cmp _ = true; kernel_rfl) | omega | exact And.intro trivial trivial | exact And.intro rfl trivial | ((repeat' (first | exact trivial | exact rfl | (refine And.intro ?_ ?_))); done) | exact inR_i64 (by omega) (by omega) | (intro h; simp at h; omega) | (intro h; (repeat' (first | exact h | exact rfl | (show TI.cmp _ = true; kernel_rfl) | exact inR_i64 (by omega) (by omega) | (refine And.intro ?_ ?_))) <;> first | (have h := of_decide_eq_true h; omega) | (simp at h; omega) | (simp at h; done) | (simp at h ⊢; exact h) | (simp at h ⊢; omega)) | (intro h; rw [h]; rfl) | (intro h; simp [h]; done) | ((try dsimp only); (repeat' (refine And.intro ?_ ?_)) <;> first | omega | (refine Nat.le_trans (Nat.mul_le_mul_right _ (?_ : _ ≤ 4000001)) (by decide +kernel); omega) | rfl) | (intros; simp_all; done) | fail) ?_) | (refine Br.intro (fun hb => ?_) (fun hb => ?_) <;> (try simp at hb) <;> (try (exfalso; omega))) | (refine Ob.intro ?_ ?_))
  (conv => whnf)
  refine call_rule (fun _ => rfl) 100 (last_con (Lx.ahead s p) (by omega)) (by rfl) ⟨Le.of_eq (by simp only [cond_true, cond_false]; rw [ht]), Le.refl _, trivial⟩ (by kernel_rfl) ?_
  have ht' : (List.take (bif false then max (bif true then max p 0 else min p 0) (s.length : Int) else min (bif true then max p 0 else min p 0) (s.length : Int)).toNat s) = Lx.ahead s p := ht
  simp only [ht']
  repeat' ((conv => whnf); first | (refine Ob.intro (by first | exact trivial | rfl | exact fun h => h | (show TI.cmp _ = true; kernel_rfl) | omega | exact And.intro trivial trivial | exact And.intro rfl trivial | ((repeat' (first | exact trivial | exact rfl | (refine And.intro ?_ ?_))); done) | exact inR_i64 (by omega) (by omega) | (intro h; simp at h; omega) | (intro h; (repeat' (first | exact h | exact rfl | (show TI.cmp _ = true; kernel_rfl) | exact inR_i64 (by omega) (by omega) | (refine And.intro ?_ ?_))) <;> first | (have h := of_decide_eq_true h; omega) | (simp at h; omega) | (simp at h; done) | (simp at h ⊢; exact h) | (simp at h ⊢; omega)) | (intro h; rw [h]; rfl) | (intro h; simp [h]; done) | ((try dsimp only); (repeat' (refine And.intro ?_ ?_)) <;> first | omega | (refine Nat.le_trans (Nat.mul_le_mul_right _ (?_ : _ ≤ 4000001)) (by decide +kernel); omega) | rfl) | (intros; simp_all; done) | fail) ?_) | (refine Br.intro (fun hb => ?_) (fun hb => ?_) <;> (try simp at hb) <;> (try (exfalso; omega))) | (refine Ob.intro ?_ ?_))
  refine Le.tup ⟨Le.refl _, Le.of_eq (congrArg (AV.int .i64) (by omega)), trivial⟩

theorem rplace_con (s : List UInt8) (p : Int) (hs : s.length ≤ 1000000) : Con Try.prog 14 [.str s, .int .i64 p] (.tup [.int .i64 (1 + (Lx.cntN (Lx.ahead s p) : Int)), .int .i64 (Lx.colN (Lx.ahead s p) : Int)]) := by
  refine con_of_exec (T := tab Try.prog) (C := {}) 100 (fun _ => rfl) Try.func14 rfl (by kernel_rfl) (by kernel_rfl) (fun c0 rdb => ?_)
  repeat' ((conv => whnf); first | (refine Ob.intro (by first | exact trivial | rfl | exact fun h => h | (show TI.cmp _ = true; kernel_rfl) | omega | exact And.intro trivial trivial | exact And.intro rfl trivial | ((repeat' (first | exact trivial | exact rfl | (refine And.intro ?_ ?_))); done) | exact inR_i64 (by omega) (by omega) | (intro h; simp at h; omega) | (intro h; (repeat' (first | exact h | exact rfl | (show TI.cmp _ = true; kernel_rfl) | exact inR_i64 (by omega) (by omega) | (refine And.intro ?_ ?_))) <;> first | (have h := of_decide_eq_true h; omega) | (simp at h; omega) | (simp at h; done) | (simp at h ⊢; exact h) | (simp at h ⊢; omega)) | (intro h; rw [h]; rfl) | (intro h; simp [h]; done) | ((try dsimp only); (repeat' (refine And.intro ?_ ?_)) <;> first | omega | (refine Nat.le_trans (Nat.mul_le_mul_right _ (?_ : _ ≤ 4000001)) (by decide +kernel); omega) | rfl) | (intros; simp_all; done) | fail) ?_) | (refine Br.intro (fun hb => ?_) (fun hb => ?_) <;> (try simp at hb) <;> (try (exfalso; omega))) | (refine Ob.intro ?_ ?_))
  (conv => whnf); refine loop_rule (fun _ => rfl) 100 1 (fun k : Nat => ⟨[(0, .str s), (1, .int .i64 p), (6, .int .i64 (1 + (Lx.cntN (s.take k) : Int))), (7, .int .i64 (Lx.colN (s.take k) : Int)), (8, .int .i64 k)], [], 0⟩)
    (fun k => k ≤ s.length ∧ (k : Int) ≤ max p 0) (fun k => s.length - k) 0 ⟨by omega, by omega⟩ (by repeat' (first | exact trivial | exact Le.refl _ | exact Le.of_eq (by congr 1; omega) | exact Le.of_eq (congrArg (AV.int _) (by omega)) | exact Le.of_eq (congrArg (AV.own _ _ _) (by first | omega | (simp; done) | (simp; omega))) | exact Le.of_eq (by first | rfl | (simp; done)) | exact ⟨⟨rfl, rfl, rfl⟩, rfl, rfl, fun _ _ => LeL.refl _⟩ | exact ⟨⟨rfl, rfl, rfl⟩, rfl, rfl, fun i hi => absurd hi (Nat.not_lt_zero i)⟩ | exact ⟨⟨rfl, rfl, rfl⟩, rfl, by simp, fun i hi => LeL.refl _⟩ | exact rfl | (refine And.intro ?_ ?_))) (fun _ => rfl) (by kernel_rfl) ?_
  rintro k ⟨hk, hp⟩
  have hc := Lx.cntN_le (s.take k)
  have hl := Lx.colN_le (s.take k)
  rw [List.length_take] at hc hl
  repeat' ((conv => whnf); first | (refine Ob.intro (by first | exact trivial | rfl | exact fun h => h | (show TI.cmp _ = true; kernel_rfl) | omega | exact And.intro trivial trivial | exact And.intro rfl trivial | ((repeat' (first | exact trivial | exact rfl | (refine And.intro ?_ ?_))); done) | exact inR_i64 (by omega) (by omega) | (intro h; simp at h; omega) | (intro h; (repeat' (first | exact h | exact rfl | (show TI.cmp _ = true; kernel_rfl) | exact inR_i64 (by omega) (by omega) | (refine And.intro ?_ ?_))) <;> first | (have h := of_decide_eq_true h; omega) | (simp at h; omega) | (simp at h; done) | (simp at h ⊢; exact h) | (simp at h ⊢; omega)) | (intro h; rw [h]; rfl) | (intro h; simp [h]; done) | ((try dsimp only); (repeat' (refine And.intro ?_ ?_)) <;> first | omega | (refine Nat.le_trans (Nat.mul_le_mul_right _ (?_ : _ ≤ 4000001)) (by decide +kernel); omega) | rfl) | (intros; simp_all; done) | fail) ?_) | (refine Br.intro (fun hb => ?_) (fun hb => ?_) <;> (try simp at hb) <;> (try (exfalso; omega))) | (refine Ob.intro ?_ ?_))
  · have hlt : k < s.length := by omega
    have h1 := Lx.colN_step hlt
    have h2 := Lx.cntN_step hlt
    rw [Lx.ten_iff hlt] at hb
    rw [if_pos hb] at h1 h2
    (conv => whnf); refine Exists.intro (k + 1) ⟨⟨by omega, by omega⟩, (by repeat' (first | exact trivial | exact Le.refl _ | exact Le.of_eq (by congr 1; omega) | exact Le.of_eq (congrArg (AV.int _) (by omega)) | exact Le.of_eq (congrArg (AV.own _ _ _) (by first | omega | (simp; done) | (simp; omega))) | exact Le.of_eq (by first | rfl | (simp; done)) | exact ⟨⟨rfl, rfl, rfl⟩, rfl, rfl, fun _ _ => LeL.refl _⟩ | exact ⟨⟨rfl, rfl, rfl⟩, rfl, rfl, fun i hi => absurd hi (Nat.not_lt_zero i)⟩ | exact ⟨⟨rfl, rfl, rfl⟩, rfl, by simp, fun i hi => LeL.refl _⟩ | exact rfl | (refine And.intro ?_ ?_))), by omega⟩
  · have hlt : k < s.length := by omega
    have h1 := Lx.colN_step hlt
    have h2 := Lx.cntN_step hlt
    rw [Lx.ten_iff hlt] at hb
    rw [if_neg hb] at h1 h2
    (conv => whnf); refine Exists.intro (k + 1) ⟨⟨by omega, by omega⟩, (by repeat' (first | exact trivial | exact Le.refl _ | exact Le.of_eq (by congr 1; omega) | exact Le.of_eq (congrArg (AV.int _) (by omega)) | exact Le.of_eq (congrArg (AV.own _ _ _) (by first | omega | (simp; done) | (simp; omega))) | exact Le.of_eq (by first | rfl | (simp; done)) | exact ⟨⟨rfl, rfl, rfl⟩, rfl, rfl, fun _ _ => LeL.refl _⟩ | exact ⟨⟨rfl, rfl, rfl⟩, rfl, rfl, fun i hi => absurd hi (Nat.not_lt_zero i)⟩ | exact ⟨⟨rfl, rfl, rfl⟩, rfl, by simp, fun i hi => LeL.refl _⟩ | exact rfl | (refine And.intro ?_ ?_))), by omega⟩
  · have : s.take k = Lx.ahead s p := by
      rw [Lx.ahead]
      by_cases h : k = s.length
      · rw [List.take_of_length_le (by omega), List.take_of_length_le (by omega)]
      · congr 1; omega
    rw [this]
    exact Le.refl _

theorem keys_le (f : Nat → List AV) (h : ∀ i, i < 21 → f i = encL (fun s => [AV.str s]) [] Lx.keys i) : Le (.slc 1 21 f) Lx.keysAV := Le.slc rfl h

theorem rkey_con (s : List UInt8) : Con Try.prog 16 [.str s] (.bool (Lx.keyB s)) := by
  have hlen : Lx.keys.length = 21 := rfl
  refine con_of_exec (T := tab Try.prog) (C := {}) 100 (fun _ => rfl) Try.func16 rfl (by kernel_rfl) (by kernel_rfl) (fun c0 rdb => ?_)
  repeat' ((conv => whnf); first | (refine Ob.intro (by first | exact trivial | rfl | exact fun h => h | (show TI.cmp _ = true; kernel_rfl) | omega | exact And.intro trivial trivial | exact And.intro rfl trivial | ((repeat' (first | exact trivial | exact rfl | (refine And.intro ?_ ?_))); done) | exact inR_i64 (by omega) (by omega) | (intro h; simp at h; omega) | (intro h; (repeat' (first | exact h | exact rfl | (show TI.cmp _ = true; kernel_rfl) | exact inR_i64 (by omega) (by omega) | (refine And.intro ?_ ?_))) <;> first | (have h := of_decide_eq_true h; omega) | (simp at h; omega) | (simp at h; done) | (simp at h ⊢; exact h) | (simp at h ⊢; omega)) | (intro h; rw [h]; rfl) | (intro h; simp [h]; done) | ((try dsimp only); (repeat' (refine And.intro ?_ ?_)) <;> first | omega | (refine Nat.le_trans (Nat.mul_le_mul_right _ (?_ : _ ≤ 4000001)) (by decide +kernel); omega) | rfl) | (intros; simp_all; done) | fail) ?_) | (refine Br.intro (fun hb => ?_) (fun hb => ?_) <;> (try simp at hb) <;> (try (exfalso; omega))) | (refine Ob.intro ?_ ?_))
  (conv => whnf); refine loop_rule (fun _ => rfl) 100 1 (fun k : Nat => ⟨[(0, .str s), (3, Lx.keysAV), (4, .int .i64 k)], [], 0⟩)
    (fun k => k ≤ Lx.keys.length ∧ ((Lx.keys.take k).any fun x => s == x) = false) (fun k => Lx.keys.length - k) 0 ⟨by omega, rfl⟩ ⟨⟨Le.refl _, keys_le _ (by
      intro i hi
      iterate 21 (rcases i with _ | i; · rfl)
      omega), Le.refl _, trivial⟩, trivial⟩ (fun _ => rfl) (by kernel_rfl) ?_
  rintro k ⟨hk, hf⟩
  have hst : ∀ h : k < Lx.keys.length, ((Lx.keys.take (k + 1)).any fun x => s == x) = (s == Lx.keys[k]) := by
    intro h
    rw [List.take_succ_eq_append_getElem h, List.any_append, hf]; simp
  repeat' ((conv => whnf); first | (refine Ob.intro (by first | exact trivial | rfl | exact fun h => h | (show TI.cmp _ = true; kernel_rfl) | omega | exact And.intro trivial trivial | exact And.intro rfl trivial | ((repeat' (first | exact trivial | exact rfl | (refine And.intro ?_ ?_))); done) | exact inR_i64 (by omega) (by omega) | (intro h; simp at h; omega) | (intro h; (repeat' (first | exact h | exact rfl | (show TI.cmp _ = true; kernel_rfl) | exact inR_i64 (by omega) (by omega) | (refine And.intro ?_ ?_))) <;> first | (have h := of_decide_eq_true h; omega) | (simp at h; omega) | (simp at h; done) | (simp at h ⊢; exact h) | (simp at h ⊢; omega)) | (intro h; rw [h]; rfl) | (intro h; simp [h]; done) | ((try dsimp only); (repeat' (refine And.intro ?_ ?_)) <;> first | omega | (refine Nat.le_trans (Nat.mul_le_mul_right _ (?_ : _ ≤ 4000001)) (by decide +kernel); omega) | rfl) | (intros; simp_all; done) | fail) ?_) | (refine Br.intro (fun hb => ?_) (fun hb => ?_)) | (refine Ob.intro ?_ ?_))
  · have hlt : k < Lx.keys.length := by have := of_decide_eq_true ‹decide ((k : Int) < _) = true›; change (k : Int) < (21 : Int) at this; omega
    refine Le.of_eq (congrArg AV.bool ?_)
    have h2 := hst hlt
    have hb' : Lx.keys[k] = s := by simpa [List.getD, hlt] using hb
    rw [hb', beq_self_eq_true] at h2
    rw [Lx.keyB]
    simp only [List.any_eq_true] at h2 ⊢
    obtain ⟨x, hx, he⟩ := h2
    exact (⟨x, List.mem_of_mem_take hx, he⟩ : ∃ x, x ∈ Lx.keys ∧ (s == x) = true).elim (fun x h => (List.any_eq_true.2 ⟨x, h⟩).symm)
  · have hlt : k < Lx.keys.length := by have := of_decide_eq_true ‹decide ((k : Int) < _) = true›; change (k : Int) < (21 : Int) at this; omega
    repeat' ((conv => whnf); first | (refine Ob.intro (by first | exact trivial | rfl | exact fun h => h | (show TI.cmp _ = true; kernel_rfl) | omega | exact And.intro trivial trivial | exact And.intro rfl trivial | ((repeat' (first | exact trivial | exact rfl | (refine And.intro ?_ ?_))); done) | exact inR_i64 (by omega) (by omega) | (intro h; simp at h; omega) | (intro h; (repeat' (first | exact h | exact rfl | (show TI.cmp _ = true; kernel_rfl) | exact inR_i64 (by omega) (by omega) | (refine And.intro ?_ ?_))) <;> first | (have h := of_decide_eq_true h; omega) | (simp at h; omega) | (simp at h; done) | (simp at h ⊢; exact h) | (simp at h ⊢; omega)) | (intro h; rw [h]; rfl) | (intro h; simp [h]; done) | ((try dsimp only); (repeat' (refine And.intro ?_ ?_)) <;> first | omega | (refine Nat.le_trans (Nat.mul_le_mul_right _ (?_ : _ ≤ 4000001)) (by decide +kernel); omega) | rfl) | (intros; simp_all; done) | fail) ?_) | (refine Ob.intro ?_ ?_))
    (conv => whnf); refine Exists.intro (k + 1) ⟨⟨by omega, ?_⟩, (by repeat' (first | exact trivial | exact Le.refl _ | exact Le.of_eq (by congr 1; omega) | exact Le.of_eq (congrArg (AV.int _) (by omega)) | exact Le.of_eq (congrArg (AV.own _ _ _) (by first | omega | (simp; done) | (simp; omega))) | exact Le.of_eq (by first | rfl | (simp; done)) | exact ⟨⟨rfl, rfl, rfl⟩, rfl, rfl, fun _ _ => LeL.refl _⟩ | exact ⟨⟨rfl, rfl, rfl⟩, rfl, rfl, fun i hi => absurd hi (Nat.not_lt_zero i)⟩ | exact ⟨⟨rfl, rfl, rfl⟩, rfl, by simp, fun i hi => LeL.refl _⟩ | exact rfl | (refine And.intro ?_ ?_))), by omega⟩
    rw [hst hlt]
    have hb' : ¬ Lx.keys[k] = s := by simpa [List.getD, hlt] using hb
    simpa using Ne.symm hb'
  · refine Le.of_eq (congrArg AV.bool ?_)
    have hge : ¬ k < Lx.keys.length := by have := of_decide_eq_false hb; change ¬ (k : Int) < (21 : Int) at this; omega
    rw [List.take_of_length_le (by omega)] at hf
    exact hf.symm

theorem rname_con (s : List UInt8) (hs : s.length ≤ 1000000) : Con Try.prog 17 [.str s] (.bool (Lx.nameB s)) := by
  cases s with
  | nil =>
    refine con_of_exec (T := tab Try.prog) (C := {}) 100 (fun _ => rfl) Try.func17 rfl (by kernel_rfl) (by kernel_rfl) (fun c0 rdb => ?_)
    repeat' ((conv => whnf); first | (refine Ob.intro (by first | exact trivial | rfl | exact fun h => h | (show TI.cmp _ = true; kernel_rfl) | omega | exact And.intro trivial trivial | exact And.intro rfl trivial | ((repeat' (first | exact trivial | exact rfl | (refine And.intro ?_ ?_))); done) | exact inR_i64 (by omega) (by omega) | (intro h; simp at h; omega) | (intro h; (repeat' (first | exact h | exact rfl | (show TI.cmp _ = true; kernel_rfl) | exact inR_i64 (by omega) (by omega) | (refine And.intro ?_ ?_))) <;> first | (have h := of_decide_eq_true h; omega) | (simp at h; omega) | (simp at h; done) | (simp at h ⊢; exact h) | (simp at h ⊢; omega)) | (intro h; rw [h]; rfl) | (intro h; simp [h]; done) | ((try dsimp only); (repeat' (refine And.intro ?_ ?_)) <;> first | omega | (refine Nat.le_trans (Nat.mul_le_mul_right _ (?_ : _ ≤ 4000001)) (by decide +kernel); omega) | rfl) | (intros; simp_all; done) | fail) ?_) | (refine Ob.intro ?_ ?_))
    ((conv => whnf); refine gcall_join (fun _ => rfl) 100 (fun _ => letter_con (byteAt [] 0)) (by rfl) (fun hg => by repeat' (first | exact trivial | exact Le.refl _ | exact Le.cnd hg | (refine And.intro ?_ ?_))) (by kernel_rfl) ?_)
    repeat' ((conv => whnf); first | (refine Ob.intro (by first | exact trivial | rfl | exact fun h => h | (show TI.cmp _ = true; kernel_rfl) | omega | exact And.intro trivial trivial | exact And.intro rfl trivial | ((repeat' (first | exact trivial | exact rfl | (refine And.intro ?_ ?_))); done) | exact inR_i64 (by omega) (by omega) | (intro h; simp at h; omega) | (intro h; (repeat' (first | exact h | exact rfl | (show TI.cmp _ = true; kernel_rfl) | exact inR_i64 (by omega) (by omega) | (refine And.intro ?_ ?_))) <;> first | (have h := of_decide_eq_true h; omega) | (simp at h; omega) | (simp at h; done) | (simp at h ⊢; exact h) | (simp at h ⊢; omega)) | (intro h; rw [h]; rfl) | (intro h; simp [h]; done) | ((try dsimp only); (repeat' (refine And.intro ?_ ?_)) <;> first | omega | (refine Nat.le_trans (Nat.mul_le_mul_right _ (?_ : _ ≤ 4000001)) (by decide +kernel); omega) | rfl) | (intros; simp_all; done) | fail) ?_) | (refine Ob.intro ?_ ?_))
    ((conv => whnf); refine gcall_join (fun _ => rfl) 100 (fun _ => rkey_con []) (by rfl) (fun hg => by repeat' (first | exact trivial | exact Le.refl _ | exact Le.cnd hg | (refine And.intro ?_ ?_))) (by kernel_rfl) ?_)
    repeat' ((conv => whnf); first | (refine Ob.intro (by first | exact trivial | rfl | exact fun h => h | (show TI.cmp _ = true; kernel_rfl) | omega | exact And.intro trivial trivial | exact And.intro rfl trivial | ((repeat' (first | exact trivial | exact rfl | (refine And.intro ?_ ?_))); done) | exact inR_i64 (by omega) (by omega) | (intro h; simp at h; omega) | (intro h; (repeat' (first | exact h | exact rfl | (show TI.cmp _ = true; kernel_rfl) | exact inR_i64 (by omega) (by omega) | (refine And.intro ?_ ?_))) <;> first | (have h := of_decide_eq_true h; omega) | (simp at h; omega) | (simp at h; done) | (simp at h ⊢; exact h) | (simp at h ⊢; omega)) | (intro h; rw [h]; rfl) | (intro h; simp [h]; done) | ((try dsimp only); (repeat' (refine And.intro ?_ ?_)) <;> first | omega | (refine Nat.le_trans (Nat.mul_le_mul_right _ (?_ : _ ≤ 4000001)) (by decide +kernel); omega) | rfl) | (intros; simp_all; done) | fail) ?_) | (refine Br.intro (fun hb => ?_) (fun hb => ?_) <;> (try simp at hb) <;> (try (exfalso; omega))) | (refine Ob.intro ?_ ?_))
    exact Le.refl _
  | cons b r =>
    refine con_of_exec (T := tab Try.prog) (C := {}) 100 (fun _ => rfl) Try.func17 rfl (by kernel_rfl) (by kernel_rfl) (fun c0 rdb => ?_)
    have hb0 : byteAt (b :: r) 0 = (b.toNat : Int) := rfl
    repeat' ((conv => whnf); refine Ob.intro (by first | rfl | exact fun h => h | exact fun h => ⟨h, trivial⟩ | exact fun h => ⟨h, h, trivial⟩ | exact fun _ => ⟨by omega, by simp <;> omega⟩ | (intro h; rw [h]; rfl) | (intro h; simp [h]; done) | exact fun h => ⟨h, by omega, by simp <;> omega⟩ | fail) ?_)
    ((conv => whnf); refine gcall_join (fun _ => rfl) 100 (fun _ => letter_con (b.toNat : Int)) (by rfl) (fun hg => by repeat' (first | exact trivial | exact Le.refl _ | exact Le.cnd hg | (refine And.intro ?_ ?_))) (by kernel_rfl) ?_)
    repeat' ((conv => whnf); first | (refine Ob.intro (by first | exact trivial | rfl | exact fun h => h | (show TI.cmp _ = true; kernel_rfl) | omega | exact And.intro trivial trivial | exact And.intro rfl trivial | ((repeat' (first | exact trivial | exact rfl | (refine And.intro ?_ ?_))); done) | exact inR_i64 (by omega) (by omega) | (intro h; simp at h; omega) | (intro h; (repeat' (first | exact h | exact rfl | (show TI.cmp _ = true; kernel_rfl) | exact inR_i64 (by omega) (by omega) | (refine And.intro ?_ ?_))) <;> first | (have h := of_decide_eq_true h; omega) | (simp at h; omega) | (simp at h; done) | (simp at h ⊢; exact h) | (simp at h ⊢; omega)) | (intro h; rw [h]; rfl) | (intro h; simp [h]; done) | ((try dsimp only); (repeat' (refine And.intro ?_ ?_)) <;> first | omega | (refine Nat.le_trans (Nat.mul_le_mul_right _ (?_ : _ ≤ 4000001)) (by decide +kernel); omega) | rfl) | (intros; simp_all; done) | fail) ?_) | (refine Ob.intro ?_ ?_))
    ((conv => whnf); refine gcall_join (fun _ => rfl) 100 (fun _ => rkey_con (b :: r)) (by rfl) (fun hg => by repeat' (first | exact trivial | exact Le.refl _ | exact Le.cnd hg | (refine And.intro ?_ ?_))) (by kernel_rfl) ?_)
    repeat' ((conv => whnf); first | (refine Ob.intro (by first | exact trivial | rfl | exact fun h => h | (show TI.cmp _ = true; kernel_rfl) | omega | exact And.intro trivial trivial | exact And.intro rfl trivial | ((repeat' (first | exact trivial | exact rfl | (refine And.intro ?_ ?_))); done) | exact inR_i64 (by omega) (by omega) | (intro h; simp at h; omega) | (intro h; (repeat' (first | exact h | exact rfl | (show TI.cmp _ = true; kernel_rfl) | exact inR_i64 (by omega) (by omega) | (refine And.intro ?_ ?_))) <;> first | (have h := of_decide_eq_true h; omega) | (simp at h; omega) | (simp at h; done) | (simp at h ⊢; exact h) | (simp at h ⊢; omega)) | (intro h; rw [h]; rfl) | (intro h; simp [h]; done) | ((try dsimp only); (repeat' (refine And.intro ?_ ?_)) <;> first | omega | (refine Nat.le_trans (Nat.mul_le_mul_right _ (?_ : _ ≤ 4000001)) (by decide +kernel); omega) | rfl) | (intros; simp_all; done) | fail) ?_) | (refine Ob.intro ?_ ?_))
    have hlet : (decide (65 ≤ (b.toNat : Int)) && decide ((b.toNat : Int) ≤ 90) || decide (97 ≤ (b.toNat : Int)) && decide ((b.toNat : Int) ≤ 122)) = decide (Lx.cls (b.toNat : Int) = 2) := Lx.letC_cls b
    rw [hlet]
    have hnb : Lx.nameB (b :: r) = (decide ((b :: r).length ≤ 12) && decide (Lx.cls (b.toNat : Int) = 2) && decide (Lx.spanN Lx.wordB (b :: r) = (b :: r).length) && !Lx.keyB (b :: r)) := rfl
    generalize hl : b :: r = l at *
    have hlp : 0 < l.length := by rw [← hl]; simp
    (conv => whnf); refine Br.intro (fun hb => ?_) (fun hb => ?_)
    · repeat' ((conv => whnf); first | (refine Ob.intro (by first | exact trivial | rfl | exact fun h => h | (show TI.cmp _ = true; kernel_rfl) | omega | exact And.intro trivial trivial | exact And.intro rfl trivial | ((repeat' (first | exact trivial | exact rfl | (refine And.intro ?_ ?_))); done) | exact inR_i64 (by omega) (by omega) | (intro h; simp at h; omega) | (intro h; (repeat' (first | exact h | exact rfl | (show TI.cmp _ = true; kernel_rfl) | exact inR_i64 (by omega) (by omega) | (refine And.intro ?_ ?_))) <;> first | (have h := of_decide_eq_true h; omega) | (simp at h; omega) | (simp at h; done) | (simp at h ⊢; exact h) | (simp at h ⊢; omega)) | (intro h; rw [h]; rfl) | (intro h; simp [h]; done) | ((try dsimp only); (repeat' (refine And.intro ?_ ?_)) <;> first | omega | (refine Nat.le_trans (Nat.mul_le_mul_right _ (?_ : _ ≤ 4000001)) (by decide +kernel); omega) | rfl) | (intros; simp_all; done) | fail) ?_) | (refine Br.intro (fun hb => ?_) (fun hb => ?_) <;> (try simp at hb) <;> (try (exfalso; omega))) | (refine Ob.intro ?_ ?_))
      refine Le.of_eq (congrArg AV.bool ?_)
      rw [hnb]
      generalize Lx.keyB l = kb at *
      generalize decide (Lx.cls (b.toNat : Int) = 2) = cb at *
      by_cases h12 : l.length ≤ 12
      · have h1 : decide ((12 : Int) < (l.length : Int)) = false := by simp; omega
        have h2 : ((l.length : Int) == 0) = false := by rw [beq_eq_false_iff_ne]; omega
        rw [h1, h2] at hb
        revert hb
        cases kb <;> cases cb <;> simp
      · simp [h12]
    · have hk : Lx.keyB l = false ∧ decide (Lx.cls (b.toNat : Int) = 2) = true ∧ l.length ≤ 12 := by
        generalize Lx.keyB l = kb at *
        generalize decide (Lx.cls (b.toNat : Int) = 2) = cb at *
        simp only [Bool.or_eq_false_iff, decide_eq_false_iff_not] at hb
        revert hb
        cases kb <;> cases cb <;> simp <;> omega
      rw [hk.1, hk.2.1] at hnb
      simp only [hk.2.2, decide_true, Bool.true_and, Bool.not_false, Bool.and_true] at hnb
      rw [hnb]
      repeat' ((conv => whnf); first | (refine Ob.intro (by first | exact trivial | rfl | exact fun h => h | (show TI.cmp _ = true; kernel_rfl) | omega | exact And.intro trivial trivial | exact And.intro rfl trivial | ((repeat' (first | exact trivial | exact rfl | (refine And.intro ?_ ?_))); done) | exact inR_i64 (by omega) (by omega) | (intro h; simp at h; omega) | (intro h; (repeat' (first | exact h | exact rfl | (show TI.cmp _ = true; kernel_rfl) | exact inR_i64 (by omega) (by omega) | (refine And.intro ?_ ?_))) <;> first | (have h := of_decide_eq_true h; omega) | (simp at h; omega) | (simp at h; done) | (simp at h ⊢; exact h) | (simp at h ⊢; omega)) | (intro h; rw [h]; rfl) | (intro h; simp [h]; done) | ((try dsimp only); (repeat' (refine And.intro ?_ ?_)) <;> first | omega | (refine Nat.le_trans (Nat.mul_le_mul_right _ (?_ : _ ≤ 4000001)) (by decide +kernel); omega) | rfl) | (intros; simp_all; done) | fail) ?_) | (refine Br.intro (fun hb => ?_) (fun hb => ?_) <;> (try simp at hb) <;> (try (exfalso; omega))) | (refine Ob.intro ?_ ?_))
      (conv => whnf); refine loop_rule (fun _ => rfl) 100 1 (fun k : Nat => ⟨[(0, .str l), (3, .int .i64 k)], [], 0⟩)
        (fun k => k ≤ l.length ∧ ∀ b ∈ l.take k, Lx.wordB b = true) (fun k => l.length - k) 0 ⟨by omega, by simp⟩ (by repeat' (first | exact trivial | exact Le.refl _ | exact Le.of_eq (by congr 1; omega) | exact Le.of_eq (congrArg (AV.int _) (by omega)) | exact Le.of_eq (congrArg (AV.own _ _ _) (by first | omega | (simp; done) | (simp; omega))) | exact Le.of_eq (by first | rfl | (simp; done)) | exact ⟨⟨rfl, rfl, rfl⟩, rfl, rfl, fun _ _ => LeL.refl _⟩ | exact ⟨⟨rfl, rfl, rfl⟩, rfl, rfl, fun i hi => absurd hi (Nat.not_lt_zero i)⟩ | exact ⟨⟨rfl, rfl, rfl⟩, rfl, by simp, fun i hi => LeL.refl _⟩ | exact rfl | (refine And.intro ?_ ?_))) (fun _ => rfl) (by kernel_rfl) ?_
      rintro k ⟨hk1, hk2⟩
      repeat' ((conv => whnf); first | (refine Ob.intro (by first | exact trivial | rfl | exact fun h => h | (show TI.cmp _ = true; kernel_rfl) | omega | exact And.intro trivial trivial | exact And.intro rfl trivial | ((repeat' (first | exact trivial | exact rfl | (refine And.intro ?_ ?_))); done) | exact inR_i64 (by omega) (by omega) | (intro h; simp at h; omega) | (intro h; (repeat' (first | exact h | exact rfl | (show TI.cmp _ = true; kernel_rfl) | exact inR_i64 (by omega) (by omega) | (refine And.intro ?_ ?_))) <;> first | (have h := of_decide_eq_true h; omega) | (simp at h; omega) | (simp at h; done) | (simp at h ⊢; exact h) | (simp at h ⊢; omega)) | (intro h; rw [h]; rfl) | (intro h; simp [h]; done) | ((try dsimp only); (repeat' (refine And.intro ?_ ?_)) <;> first | omega | (refine Nat.le_trans (Nat.mul_le_mul_right _ (?_ : _ ≤ 4000001)) (by decide +kernel); omega) | rfl) | (intros; simp_all; done) | fail) ?_) | (refine Br.intro (fun hb => ?_) (fun hb => ?_) <;> (try simp at hb) <;> (try (exfalso; omega))) | (refine Ob.intro ?_ ?_))
      · have hlt : k < l.length := by omega
        ((conv => whnf); refine call_rule (fun _ => rfl) 100 (word_con (byteAt l k)) (by rfl) (by repeat' (first | exact trivial | exact Le.refl _ | (refine And.intro ?_ ?_))) (by kernel_rfl) ?_)
        repeat' ((conv => whnf); first | (refine Ob.intro (by first | exact trivial | rfl | exact fun h => h | (show TI.cmp _ = true; kernel_rfl) | omega | exact And.intro trivial trivial | exact And.intro rfl trivial | ((repeat' (first | exact trivial | exact rfl | (refine And.intro ?_ ?_))); done) | exact inR_i64 (by omega) (by omega) | (intro h; simp at h; omega) | (intro h; (repeat' (first | exact h | exact rfl | (show TI.cmp _ = true; kernel_rfl) | exact inR_i64 (by omega) (by omega) | (refine And.intro ?_ ?_))) <;> first | (have h := of_decide_eq_true h; omega) | (simp at h; omega) | (simp at h; done) | (simp at h ⊢; exact h) | (simp at h ⊢; omega)) | (intro h; rw [h]; rfl) | (intro h; simp [h]; done) | ((try dsimp only); (repeat' (refine And.intro ?_ ?_)) <;> first | omega | (refine Nat.le_trans (Nat.mul_le_mul_right _ (?_ : _ ≤ 4000001)) (by decide +kernel); omega) | rfl) | (intros; simp_all; done) | fail) ?_) | (refine Br.intro (fun hb => ?_) (fun hb => ?_)) | (refine Ob.intro ?_ ?_))
        · refine Le.of_eq (congrArg AV.bool ?_)
          rw [Lx.byteAt_get hlt, Lx.wordC_B] at hb
          symm
          simp only [decide_eq_false_iff_not, Lx.spanN_all]
          intro h
          have := h l[k] (List.getElem_mem hlt)
          rw [this] at hb
          cases hb
        · rw [Lx.byteAt_get hlt, Lx.wordC_B] at hb
          repeat' ((conv => whnf); first | (refine Ob.intro (by first | exact trivial | rfl | exact fun h => h | (show TI.cmp _ = true; kernel_rfl) | omega | exact And.intro trivial trivial | exact And.intro rfl trivial | ((repeat' (first | exact trivial | exact rfl | (refine And.intro ?_ ?_))); done) | exact inR_i64 (by omega) (by omega) | (intro h; simp at h; omega) | (intro h; (repeat' (first | exact h | exact rfl | (show TI.cmp _ = true; kernel_rfl) | exact inR_i64 (by omega) (by omega) | (refine And.intro ?_ ?_))) <;> first | (have h := of_decide_eq_true h; omega) | (simp at h; omega) | (simp at h; done) | (simp at h ⊢; exact h) | (simp at h ⊢; omega)) | (intro h; rw [h]; rfl) | (intro h; simp [h]; done) | ((try dsimp only); (repeat' (refine And.intro ?_ ?_)) <;> first | omega | (refine Nat.le_trans (Nat.mul_le_mul_right _ (?_ : _ ≤ 4000001)) (by decide +kernel); omega) | rfl) | (intros; simp_all; done) | fail) ?_) | (refine Ob.intro ?_ ?_))
          (conv => whnf); refine Exists.intro (k + 1) ⟨⟨by omega, ?_⟩, (by repeat' (first | exact trivial | exact Le.refl _ | exact Le.of_eq (by congr 1; omega) | exact Le.of_eq (congrArg (AV.int _) (by omega)) | exact Le.of_eq (congrArg (AV.own _ _ _) (by first | omega | (simp; done) | (simp; omega))) | exact Le.of_eq (by first | rfl | (simp; done)) | exact ⟨⟨rfl, rfl, rfl⟩, rfl, rfl, fun _ _ => LeL.refl _⟩ | exact ⟨⟨rfl, rfl, rfl⟩, rfl, rfl, fun i hi => absurd hi (Nat.not_lt_zero i)⟩ | exact ⟨⟨rfl, rfl, rfl⟩, rfl, by simp, fun i hi => LeL.refl _⟩ | exact rfl | (refine And.intro ?_ ?_))), by omega⟩
          intro x hx
          rw [List.take_succ_eq_append_getElem hlt] at hx
          rcases List.mem_append.1 hx with hx | hx
          · exact hk2 x hx
          · simp at hx; subst hx; simpa using hb
      · refine Le.of_eq (congrArg AV.bool ?_)
        rw [List.take_of_length_le (by omega)] at hk2
        symm
        simpa [Lx.spanN_all] using hk2

end Go.Proofs.Ytljcikhibikebaa
