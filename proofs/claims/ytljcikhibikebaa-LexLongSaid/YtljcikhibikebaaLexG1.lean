/- The law on long texts, plainly and by its function. -/
import Derived.Test.YtljcikhibikebaaLexN1
namespace Go.Proofs.Ytljcikhibikebaa
open Go.Sx Go.RowKit
set_option maxRecDepth 100000
set_option maxHeartbeats 1000000

theorem Lx.lexR_blanks (k p : Nat) : Lx.lexR (List.replicate k 32) p = .ok [⟨3, [], (p + k : Nat)⟩] := by
  induction k generalizing p with
  | zero => rw [List.replicate_zero, Lx.lexR_nil]; rfl
  | succ k ih =>
    rw [List.replicate_succ, Lx.lexR_cons, if_pos (by decide), ih]
    congr 4; omega

theorem Lx.lex_blanks (k : Nat) : Lx.lexAV (List.replicate k 32) = if k ≤ 4000 then .tup [Lx.toks [⟨3, [], k⟩], .agg [.int .i64 0, .int .i64 0]] else .tup [Lx.toks [], .agg [.int .i64 12, .int .i64 0]] := by
  rw [Lx.lexAV, Lx.lexAll, List.length_replicate, Lx.lexR_blanks]
  by_cases h : k ≤ 4000
  · rw [if_neg (by omega), if_pos h]; simp
  · rw [if_pos (by omega), if_neg h]

theorem Lx.span_rep (p : UInt8 → Bool) (b : UInt8) (k : Nat) (h : p b = true) : Lx.spanN p (List.replicate k b) = k := by
  have := (Lx.spanN_all p (List.replicate k b)).2 (fun x hx => by rw [List.eq_of_mem_replicate hx]; exact h)
  rwa [List.length_replicate] at this

theorem Lx.lex_sevens (k : Nat) (h0 : 1 ≤ k) (h1 : k ≤ 12) : Lx.lexAV (List.replicate k 55) = if k ≤ 6 then .tup [Lx.toks [⟨1, List.replicate k 55, 0⟩, ⟨3, [], k⟩], .agg [.int .i64 0, .int .i64 0]] else .tup [Lx.toks [], .agg [.int .i64 10, .int .i64 0]] := by
  obtain ⟨k, rfl⟩ : ∃ j, k = j + 1 := ⟨k - 1, by omega⟩
  have hf : Lx.firstN (55 :: List.replicate k 55) = if 6 < k + 1 then 0 else k + 1 := by
    rw [(Lx.first_dig (by decide)).1, ← List.replicate_succ, Lx.span_rep Lx.digB 55 (k + 1) (by decide)]
  have hk : Lx.firstK (55 :: List.replicate k 55) = 1 := (Lx.first_dig (by decide)).2
  have hsl : Lx.slash2 (55 :: List.replicate k 55) = false := by
    cases k <;> rfl
  have hr : Lx.lexR (List.replicate (k + 1) 55) 0 = if k + 1 ≤ 6 then .ok [⟨1, List.replicate (k + 1) 55, 0⟩, ⟨3, [], (k + 1 : Nat)⟩] else .error 0 := by
    rw [List.replicate_succ, Lx.lexR_cons, if_neg (by decide), hsl, if_neg (by decide), hf, hk]
    by_cases h : k + 1 ≤ 6
    · rw [if_neg (by omega : ¬ 6 < k + 1), if_neg (by omega), if_pos h, Nat.add_sub_cancel, List.drop_replicate, Nat.sub_self, List.replicate_zero, Lx.lexR_nil, ← List.replicate_succ, List.take_of_length_le (by simp)]
      simp [Except.map]
    · rw [if_pos (by omega : 6 < k + 1), if_pos rfl, if_neg h]
  rw [Lx.lexAV, Lx.lexAll, List.length_replicate, hr, if_neg (by omega)]
  by_cases h : k + 1 ≤ 6
  · rw [if_pos h, if_pos h]
  · rw [if_neg h, if_neg h]; rfl

theorem Lx.nameB_cons (b : UInt8) (r : List UInt8) : Lx.nameB (b :: r) = (decide ((b :: r).length ≤ 12) && decide (Lx.cls (b.toNat : Int) = 2) && decide (Lx.spanN Lx.wordB (b :: r) = (b :: r).length) && !Lx.keyB (b :: r)) := rfl

theorem Lx.name_qs (k : Nat) (h0 : 1 ≤ k) : Lx.nameB (List.replicate k 113) = decide (k ≤ 12) := by
  obtain ⟨k, rfl⟩ : ∃ j, k = j + 1 := ⟨k - 1, by omega⟩
  have hkey : Lx.keyB (List.replicate (k + 1) 113) = false := by
    rw [Lx.keyB, List.any_eq_false]
    intro x hx
    have : ∀ x ∈ Lx.keys, x.head? ≠ some 113 := by decide
    simp only [beq_iff_eq]
    intro e
    exact this x hx (by rw [← e]; rfl)
  rw [List.replicate_succ] at hkey ⊢
  have hnb := Lx.nameB_cons 113 (List.replicate k 113)
  rw [hnb, hkey, show decide (Lx.cls ((113 : UInt8).toNat : Int) = 2) = true by decide, ← List.replicate_succ, Lx.span_rep Lx.wordB 113 (k + 1) (by decide)]
  simp

theorem Lx.bytes_rep (k : Nat) (b : UInt8) : bytesV k (fun _ => [AV.int .u8 (b.toNat : Int)]) = List.replicate k b := by
  apply List.ext_getElem
  · simp [bytesV]
  · intro i h1 h2; simp [bytesV, byteV]

theorem app_rep (b : Int) (k : Nat) (g : Nat → List AV) (h : g 0 = [.int .u8 b]) (i : Nat) (hi : i < k + 1) : LeL (appF k (fun _ => [AV.int .u8 b]) 1 g i) [AV.int .u8 b] := by
  refine LeL.of_eq ?_
  simp only [appF]
  by_cases h1 : i < k
  · rw [if_pos h1]
  · obtain rfl : i = k := by omega
    rw [if_neg h1, if_pos (by omega), Nat.sub_self, h]

theorem lexLong_con (n c : Int) (hn : 0 ≤ n ∧ n ≤ 65535) (hc : 0 ≤ c ∧ c ≤ 255) : Con Try.prog 4 [.int .u16 n, .int .u8 c] (.bool true) := by
  have hm : n.tmod 5000 = n % 5000 := Int.tmod_eq_emod_of_nonneg hn.1
  have hm2 : n.tmod 12 = n % 12 := Int.tmod_eq_emod_of_nonneg hn.1
  have hm3 : n.tmod 20 = n % 20 := Int.tmod_eq_emod_of_nonneg hn.1
  refine con_of_exec (T := tab Try.prog) (C := {owns := [(5, (5, 1))]}) 400 (fun _ => rfl) Try.func4 rfl (by kernel_rfl) (by kernel_rfl) (fun c0 rdb => ?_)
  repeat' ((conv => whnf); first | (refine Ob.intro (by first | exact trivial | rfl | exact fun h => h | (show TI.cmp _ = true; kernel_rfl) | omega | exact And.intro trivial trivial | exact And.intro rfl trivial | ((repeat' (first | exact trivial | exact rfl | (refine And.intro ?_ ?_))); done) | exact inR_i64 (by omega) (by omega) | (intro h; simp at h; omega) | (intro h; (repeat' (first | exact h | exact rfl | (show TI.cmp _ = true; kernel_rfl) | exact inR_i64 (by omega) (by omega) | (refine And.intro ?_ ?_))) <;> first | (have h := of_decide_eq_true h; omega) | (simp at h; omega) | (simp at h; done) | (simp at h ⊢; exact h) | (simp at h ⊢; omega)) | (intro h; rw [h]; rfl) | (intro h; simp [h]; done) | ((try dsimp only); (repeat' (refine And.intro ?_ ?_)) <;> first | omega | (refine Nat.le_trans (Nat.mul_le_mul_right _ (?_ : _ ≤ 4000001)) (by decide +kernel); omega) | rfl) | (intros; simp_all; done) | fail) ?_) | (refine Br.intro (fun hb => ?_) (fun hb => ?_) <;> (try simp at hb) <;> (try (exfalso; omega))) | (refine Ob.intro ?_ ?_))
  ((conv => whnf); refine call_rule (fun _ => rfl) 400 (awake_con) (by rfl) (by repeat' (first | exact trivial | exact Le.refl _ | (refine And.intro ?_ ?_))) (by kernel_rfl) ?_)
  repeat' ((conv => whnf); first | (refine Ob.intro (by first | exact trivial | rfl | exact fun h => h | (show TI.cmp _ = true; kernel_rfl) | omega | exact And.intro trivial trivial | exact And.intro rfl trivial | ((repeat' (first | exact trivial | exact rfl | (refine And.intro ?_ ?_))); done) | exact inR_i64 (by omega) (by omega) | (intro h; simp at h; omega) | (intro h; (repeat' (first | exact h | exact rfl | (show TI.cmp _ = true; kernel_rfl) | exact inR_i64 (by omega) (by omega) | (refine And.intro ?_ ?_))) <;> first | (have h := of_decide_eq_true h; omega) | (simp at h; omega) | (simp at h; done) | (simp at h ⊢; exact h) | (simp at h ⊢; omega)) | (intro h; rw [h]; rfl) | (intro h; simp [h]; done) | ((try dsimp only); (repeat' (refine And.intro ?_ ?_)) <;> first | omega | (refine Nat.le_trans (Nat.mul_le_mul_right _ (?_ : _ ≤ 4000001)) (by decide +kernel); omega) | rfl) | (intros; simp_all; done) | fail) ?_) | (refine Br.intro (fun hb => ?_) (fun hb => ?_) <;> (try simp at hb) <;> (try (exfalso; omega))) | (refine Ob.intro ?_ ?_))
  · (conv => whnf); refine loop_rule (fun _ => rfl) 400 1 (fun k : Nat => ⟨[(0, .int .u16 n), (5, .own 0 0 0 k), (6, .int .i64 k)], [(0, .row [] 5 1 0 k (fun _ => [.int .u8 32]))], 1⟩)
      (fun k => (k : Int) ≤ n % 5000) (fun k => 5000 - k) 0 (by omega) (by repeat' (first | exact trivial | exact Le.refl _ | exact Le.of_eq (by congr 1; omega) | exact Le.of_eq (congrArg (AV.int _) (by omega)) | exact Le.of_eq (congrArg (AV.own _ _ _) (by first | omega | (simp; done) | (simp; omega))) | exact Le.of_eq (by first | rfl | (simp; done)) | exact ⟨⟨rfl, rfl, rfl⟩, rfl, rfl, fun _ _ => LeL.refl _⟩ | exact ⟨⟨rfl, rfl, rfl⟩, rfl, rfl, fun i hi => absurd hi (Nat.not_lt_zero i)⟩ | exact ⟨⟨rfl, rfl, rfl⟩, rfl, by simp, fun i hi => LeL.refl _⟩ | exact rfl | (refine And.intro ?_ ?_))) (fun _ => rfl) (by kernel_rfl) ?_
    intro k hk
    repeat' ((conv => whnf); first | (refine Ob.intro (by first | exact trivial | rfl | exact fun h => h | (show TI.cmp _ = true; kernel_rfl) | omega | exact And.intro trivial trivial | exact And.intro rfl trivial | ((repeat' (first | exact trivial | exact rfl | (refine And.intro ?_ ?_))); done) | exact inR_i64 (by omega) (by omega) | (intro h; simp at h; omega) | (intro h; (repeat' (first | exact h | exact rfl | (show TI.cmp _ = true; kernel_rfl) | exact inR_i64 (by omega) (by omega) | (refine And.intro ?_ ?_))) <;> first | (have h := of_decide_eq_true h; omega) | (simp at h; omega) | (simp at h; done) | (simp at h ⊢; exact h) | (simp at h ⊢; omega)) | (intro h; rw [h]; rfl) | (intro h; simp [h]; done) | ((try dsimp only); (repeat' (refine And.intro ?_ ?_)) <;> first | omega | (refine Nat.le_trans (Nat.mul_le_mul_right _ (?_ : _ ≤ 4000001)) (by decide +kernel); omega) | rfl) | (intros; simp_all; done) | fail) ?_) | (refine Br.intro (fun hb => ?_) (fun hb => ?_) <;> (try simp at hb) <;> (try (exfalso; omega))) | (refine Ob.intro ?_ ?_))
    · (conv => whnf); refine Exists.intro (k + 1) ⟨by omega, ⟨(by repeat' (first | exact trivial | exact Le.refl _ | exact Le.of_eq (by congr 1; omega) | exact Le.of_eq (congrArg (AV.int _) (by omega)) | exact Le.of_eq (congrArg (AV.own _ _ _) (by first | omega | (simp; done) | (simp; omega))) | exact Le.of_eq (by first | rfl | (simp; done)) | exact ⟨⟨rfl, rfl, rfl⟩, rfl, rfl, fun _ _ => LeL.refl _⟩ | exact ⟨⟨rfl, rfl, rfl⟩, rfl, rfl, fun i hi => absurd hi (Nat.not_lt_zero i)⟩ | exact ⟨⟨rfl, rfl, rfl⟩, rfl, by simp, fun i hi => LeL.refl _⟩ | exact rfl | (refine And.intro ?_ ?_))), ⟨⟨rfl, rfl, rfl⟩, rfl, rfl, fun i hi => app_rep 32 k _ rfl i hi⟩, trivial⟩, by omega⟩
    · exact ⟨⟨rfl, rfl⟩, fun _ _ => ⟨32, rfl⟩⟩
    · have hk4 : k ≤ 5000 := by omega
      have hbr := Lx.bytes_rep k 32
      have hto := tokens_con (List.replicate k 32) (by simp; omega)
      rw [Lx.lex_blanks] at hto
      by_cases h4 : k ≤ 4000
      · rw [if_pos h4] at hto
        (conv => whnf)
        refine call_rule (fun _ => rfl) 400 hto (by rfl) ⟨Le.of_eq (congrArg AV.str hbr), trivial⟩ (by kernel_rfl) ?_
        repeat' ((conv => whnf); first | (refine Ob.intro (by first | exact trivial | rfl | exact fun h => h | (show TI.cmp _ = true; kernel_rfl) | omega | exact And.intro trivial trivial | exact And.intro rfl trivial | ((repeat' (first | exact trivial | exact rfl | (refine And.intro ?_ ?_))); done) | exact inR_i64 (by omega) (by omega) | (intro h; simp at h; omega) | (intro h; (repeat' (first | exact h | exact rfl | (show TI.cmp _ = true; kernel_rfl) | exact inR_i64 (by omega) (by omega) | (refine And.intro ?_ ?_))) <;> first | (have h := of_decide_eq_true h; omega) | (simp at h; omega) | (simp at h; done) | (simp at h ⊢; exact h) | (simp at h ⊢; omega)) | (intro h; rw [h]; rfl) | (intro h; simp [h]; done) | ((try dsimp only); (repeat' (refine And.intro ?_ ?_)) <;> first | omega | (refine Nat.le_trans (Nat.mul_le_mul_right _ (?_ : _ ≤ 4000001)) (by decide +kernel); omega) | rfl) | (intros; simp_all; done) | fail) ?_) | (refine Ob.intro ?_ ?_))
        refine Le.of_eq (congrArg AV.bool ?_)
        simp; omega
      · rw [if_neg h4] at hto
        (conv => whnf)
        refine call_rule (fun _ => rfl) 400 hto (by rfl) ⟨Le.of_eq (congrArg AV.str hbr), trivial⟩ (by kernel_rfl) ?_
        repeat' ((conv => whnf); first | (refine Ob.intro (by first | exact trivial | rfl | exact fun h => h | (show TI.cmp _ = true; kernel_rfl) | omega | exact And.intro trivial trivial | exact And.intro rfl trivial | ((repeat' (first | exact trivial | exact rfl | (refine And.intro ?_ ?_))); done) | exact inR_i64 (by omega) (by omega) | (intro h; simp at h; omega) | (intro h; (repeat' (first | exact h | exact rfl | (show TI.cmp _ = true; kernel_rfl) | exact inR_i64 (by omega) (by omega) | (refine And.intro ?_ ?_))) <;> first | (have h := of_decide_eq_true h; omega) | (simp at h; omega) | (simp at h; done) | (simp at h ⊢; exact h) | (simp at h ⊢; omega)) | (intro h; rw [h]; rfl) | (intro h; simp [h]; done) | ((try dsimp only); (repeat' (refine And.intro ?_ ?_)) <;> first | omega | (refine Nat.le_trans (Nat.mul_le_mul_right _ (?_ : _ ≤ 4000001)) (by decide +kernel); omega) | rfl) | (intros; simp_all; done) | fail) ?_) | (refine Ob.intro ?_ ?_))
        refine Le.of_eq (congrArg AV.bool ?_)
        simp; omega
  · (conv => whnf); refine loop_rule (fun _ => rfl) 400 1 (fun k : Nat => ⟨[(0, .int .u16 n), (5, .own 0 0 0 k), (9, .int .i64 k)], [(0, .row [] 5 1 0 k (fun _ => [.int .u8 55]))], 1⟩)
      (fun k => (k : Int) ≤ n % 12 + 1) (fun k => 13 - k) 0 (by omega) (by repeat' (first | exact trivial | exact Le.refl _ | exact Le.of_eq (by congr 1; omega) | exact Le.of_eq (congrArg (AV.int _) (by omega)) | exact Le.of_eq (congrArg (AV.own _ _ _) (by first | omega | (simp; done) | (simp; omega))) | exact Le.of_eq (by first | rfl | (simp; done)) | exact ⟨⟨rfl, rfl, rfl⟩, rfl, rfl, fun _ _ => LeL.refl _⟩ | exact ⟨⟨rfl, rfl, rfl⟩, rfl, rfl, fun i hi => absurd hi (Nat.not_lt_zero i)⟩ | exact ⟨⟨rfl, rfl, rfl⟩, rfl, by simp, fun i hi => LeL.refl _⟩ | exact rfl | (refine And.intro ?_ ?_))) (fun _ => rfl) (by kernel_rfl) ?_
    intro k hk
    repeat' ((conv => whnf); first | (refine Ob.intro (by first | exact trivial | rfl | exact fun h => h | (show TI.cmp _ = true; kernel_rfl) | omega | exact And.intro trivial trivial | exact And.intro rfl trivial | ((repeat' (first | exact trivial | exact rfl | (refine And.intro ?_ ?_))); done) | exact inR_i64 (by omega) (by omega) | (intro h; simp at h; omega) | (intro h; (repeat' (first | exact h | exact rfl | (show TI.cmp _ = true; kernel_rfl) | exact inR_i64 (by omega) (by omega) | (refine And.intro ?_ ?_))) <;> first | (have h := of_decide_eq_true h; omega) | (simp at h; omega) | (simp at h; done) | (simp at h ⊢; exact h) | (simp at h ⊢; omega)) | (intro h; rw [h]; rfl) | (intro h; simp [h]; done) | ((try dsimp only); (repeat' (refine And.intro ?_ ?_)) <;> first | omega | (refine Nat.le_trans (Nat.mul_le_mul_right _ (?_ : _ ≤ 4000001)) (by decide +kernel); omega) | rfl) | (intros; simp_all; done) | fail) ?_) | (refine Br.intro (fun hb => ?_) (fun hb => ?_) <;> (try simp at hb) <;> (try (exfalso; omega))) | (refine Ob.intro ?_ ?_))
    · (conv => whnf); refine Exists.intro (k + 1) ⟨by omega, ⟨(by repeat' (first | exact trivial | exact Le.refl _ | exact Le.of_eq (by congr 1; omega) | exact Le.of_eq (congrArg (AV.int _) (by omega)) | exact Le.of_eq (congrArg (AV.own _ _ _) (by first | omega | (simp; done) | (simp; omega))) | exact Le.of_eq (by first | rfl | (simp; done)) | exact ⟨⟨rfl, rfl, rfl⟩, rfl, rfl, fun _ _ => LeL.refl _⟩ | exact ⟨⟨rfl, rfl, rfl⟩, rfl, rfl, fun i hi => absurd hi (Nat.not_lt_zero i)⟩ | exact ⟨⟨rfl, rfl, rfl⟩, rfl, by simp, fun i hi => LeL.refl _⟩ | exact rfl | (refine And.intro ?_ ?_))), ⟨⟨rfl, rfl, rfl⟩, rfl, rfl, fun i hi => app_rep 55 k _ rfl i hi⟩, trivial⟩, by omega⟩
    · exact ⟨⟨rfl, rfl⟩, fun _ _ => ⟨55, rfl⟩⟩
    · have hk4 : 1 ≤ k ∧ k ≤ 12 := by omega
      have hbr := Lx.bytes_rep k 55
      have hto := tokens_con (List.replicate k 55) (by simp; omega)
      rw [Lx.lex_sevens k hk4.1 hk4.2] at hto
      by_cases h4 : k ≤ 6
      · rw [if_pos h4] at hto
        (conv => whnf)
        refine call_rule (fun _ => rfl) 400 hto (by rfl) ⟨Le.of_eq (congrArg AV.str hbr), trivial⟩ (by kernel_rfl) ?_
        repeat' ((conv => whnf); first | (refine Ob.intro (by first | exact trivial | rfl | exact fun h => h | (show TI.cmp _ = true; kernel_rfl) | omega | exact And.intro trivial trivial | exact And.intro rfl trivial | ((repeat' (first | exact trivial | exact rfl | (refine And.intro ?_ ?_))); done) | exact inR_i64 (by omega) (by omega) | (intro h; simp at h; omega) | (intro h; (repeat' (first | exact h | exact rfl | (show TI.cmp _ = true; kernel_rfl) | exact inR_i64 (by omega) (by omega) | (refine And.intro ?_ ?_))) <;> first | (have h := of_decide_eq_true h; omega) | (simp at h; omega) | (simp at h; done) | (simp at h ⊢; exact h) | (simp at h ⊢; omega)) | (intro h; rw [h]; rfl) | (intro h; simp [h]; done) | ((try dsimp only); (repeat' (refine And.intro ?_ ?_)) <;> first | omega | (refine Nat.le_trans (Nat.mul_le_mul_right _ (?_ : _ ≤ 4000001)) (by decide +kernel); omega) | rfl) | (intros; simp_all; done) | fail) ?_) | (refine Ob.intro ?_ ?_))
        refine Le.of_eq (congrArg AV.bool ?_)
        simp; omega
      · rw [if_neg h4] at hto
        (conv => whnf)
        refine call_rule (fun _ => rfl) 400 hto (by rfl) ⟨Le.of_eq (congrArg AV.str hbr), trivial⟩ (by kernel_rfl) ?_
        repeat' ((conv => whnf); first | (refine Ob.intro (by first | exact trivial | rfl | exact fun h => h | (show TI.cmp _ = true; kernel_rfl) | omega | exact And.intro trivial trivial | exact And.intro rfl trivial | ((repeat' (first | exact trivial | exact rfl | (refine And.intro ?_ ?_))); done) | exact inR_i64 (by omega) (by omega) | (intro h; simp at h; omega) | (intro h; (repeat' (first | exact h | exact rfl | (show TI.cmp _ = true; kernel_rfl) | exact inR_i64 (by omega) (by omega) | (refine And.intro ?_ ?_))) <;> first | (have h := of_decide_eq_true h; omega) | (simp at h; omega) | (simp at h; done) | (simp at h ⊢; exact h) | (simp at h ⊢; omega)) | (intro h; rw [h]; rfl) | (intro h; simp [h]; done) | ((try dsimp only); (repeat' (refine And.intro ?_ ?_)) <;> first | omega | (refine Nat.le_trans (Nat.mul_le_mul_right _ (?_ : _ ≤ 4000001)) (by decide +kernel); omega) | rfl) | (intros; simp_all; done) | fail) ?_) | (refine Ob.intro ?_ ?_))
        refine Le.of_eq (congrArg AV.bool ?_)
        simp; omega
  · (conv => whnf); refine loop_rule (fun _ => rfl) 400 1 (fun k : Nat => ⟨[(0, .int .u16 n), (5, .own 0 0 0 k), (12, .int .i64 k)], [(0, .row [] 5 1 0 k (fun _ => [.int .u8 113]))], 1⟩)
      (fun k => (k : Int) ≤ n % 20 + 1) (fun k => 21 - k) 0 (by omega) (by repeat' (first | exact trivial | exact Le.refl _ | exact Le.of_eq (by congr 1; omega) | exact Le.of_eq (congrArg (AV.int _) (by omega)) | exact Le.of_eq (congrArg (AV.own _ _ _) (by first | omega | (simp; done) | (simp; omega))) | exact Le.of_eq (by first | rfl | (simp; done)) | exact ⟨⟨rfl, rfl, rfl⟩, rfl, rfl, fun _ _ => LeL.refl _⟩ | exact ⟨⟨rfl, rfl, rfl⟩, rfl, rfl, fun i hi => absurd hi (Nat.not_lt_zero i)⟩ | exact ⟨⟨rfl, rfl, rfl⟩, rfl, by simp, fun i hi => LeL.refl _⟩ | exact rfl | (refine And.intro ?_ ?_))) (fun _ => rfl) (by kernel_rfl) ?_
    intro k hk
    repeat' ((conv => whnf); first | (refine Ob.intro (by first | exact trivial | rfl | exact fun h => h | (show TI.cmp _ = true; kernel_rfl) | omega | exact And.intro trivial trivial | exact And.intro rfl trivial | ((repeat' (first | exact trivial | exact rfl | (refine And.intro ?_ ?_))); done) | exact inR_i64 (by omega) (by omega) | (intro h; simp at h; omega) | (intro h; (repeat' (first | exact h | exact rfl | (show TI.cmp _ = true; kernel_rfl) | exact inR_i64 (by omega) (by omega) | (refine And.intro ?_ ?_))) <;> first | (have h := of_decide_eq_true h; omega) | (simp at h; omega) | (simp at h; done) | (simp at h ⊢; exact h) | (simp at h ⊢; omega)) | (intro h; rw [h]; rfl) | (intro h; simp [h]; done) | ((try dsimp only); (repeat' (refine And.intro ?_ ?_)) <;> first | omega | (refine Nat.le_trans (Nat.mul_le_mul_right _ (?_ : _ ≤ 4000001)) (by decide +kernel); omega) | rfl) | (intros; simp_all; done) | fail) ?_) | (refine Br.intro (fun hb => ?_) (fun hb => ?_) <;> (try simp at hb) <;> (try (exfalso; omega))) | (refine Ob.intro ?_ ?_))
    · (conv => whnf); refine Exists.intro (k + 1) ⟨by omega, ⟨(by repeat' (first | exact trivial | exact Le.refl _ | exact Le.of_eq (by congr 1; omega) | exact Le.of_eq (congrArg (AV.int _) (by omega)) | exact Le.of_eq (congrArg (AV.own _ _ _) (by first | omega | (simp; done) | (simp; omega))) | exact Le.of_eq (by first | rfl | (simp; done)) | exact ⟨⟨rfl, rfl, rfl⟩, rfl, rfl, fun _ _ => LeL.refl _⟩ | exact ⟨⟨rfl, rfl, rfl⟩, rfl, rfl, fun i hi => absurd hi (Nat.not_lt_zero i)⟩ | exact ⟨⟨rfl, rfl, rfl⟩, rfl, by simp, fun i hi => LeL.refl _⟩ | exact rfl | (refine And.intro ?_ ?_))), ⟨⟨rfl, rfl, rfl⟩, rfl, rfl, fun i hi => app_rep 113 k _ rfl i hi⟩, trivial⟩, by omega⟩
    · exact ⟨⟨rfl, rfl⟩, fun _ _ => ⟨113, rfl⟩⟩
    · have hk4 : 1 ≤ k ∧ k ≤ 20 := by omega
      have hbr := Lx.bytes_rep k 113
      have hto := name_con (List.replicate k 113) (by simp; omega)
      rw [Lx.name_qs k hk4.1] at hto
      (conv => whnf)
      refine call_rule (fun _ => rfl) 400 hto (by rfl) ⟨Le.of_eq (congrArg AV.str hbr), trivial⟩ (by kernel_rfl) ?_
      repeat' ((conv => whnf); first | (refine Ob.intro (by first | exact trivial | rfl | exact fun h => h | (show TI.cmp _ = true; kernel_rfl) | omega | exact And.intro trivial trivial | exact And.intro rfl trivial | ((repeat' (first | exact trivial | exact rfl | (refine And.intro ?_ ?_))); done) | exact inR_i64 (by omega) (by omega) | (intro h; simp at h; omega) | (intro h; (repeat' (first | exact h | exact rfl | (show TI.cmp _ = true; kernel_rfl) | exact inR_i64 (by omega) (by omega) | (refine And.intro ?_ ?_))) <;> first | (have h := of_decide_eq_true h; omega) | (simp at h; omega) | (simp at h; done) | (simp at h ⊢; exact h) | (simp at h ⊢; omega)) | (intro h; rw [h]; rfl) | (intro h; simp [h]; done) | ((try dsimp only); (repeat' (refine And.intro ?_ ?_)) <;> first | omega | (refine Nat.le_trans (Nat.mul_le_mul_right _ (?_ : _ ≤ 4000001)) (by decide +kernel); omega) | rfl) | (intros; simp_all; done) | fail) ?_) | (refine Ob.intro ?_ ?_))
      refine Le.of_eq (congrArg AV.bool ?_)
      simp; omega

end Go.Proofs.Ytljcikhibikebaa
