/- Some texts of the library, one behind the other. -/
import Derived.Test.YtdoaagphhjggbaaQ34
import Derived.Test.YtdoaagphhjggbaaQ2
section
namespace Go.Proofs.Ytdoaagphhjggbaa
open Go Go.Sx Go.RowKit Go.St
set_option maxRecDepth 100000
set_option maxHeartbeats 4000000
theorem quj {k i : Nat} (h : k ≠ i) : (k < i + 1) = (k < i) := propext ⟨fun _ => by omega, fun _ => by omega⟩
theorem jbw {f g : Nat → List AV} {m q : Nat} (hq : q < m) : appF 0 f m g q = g q := by
 unfold appF
 rw [if_neg (by omega), if_pos (by omega), Nat.sub_zero]
theorem jnv (l : List Int) (hl : l.length ≤ 1000000) : Con Try.prog 81 [ints l] (ints l) := by
 refine zK {} 300 Try.func81 (fun c0 rdb => ?_)
 (repeat' ((conv => whnf); first | refine Ob.auto ?_ | (refine Ob.intro (by ((refine ⟨by omega, by omega, by omega, ?_⟩; dsimp only; refine Int.le_trans (Int.mul_le_mul_of_nonneg_right (?_ : _ ≤ (4000001 : Int)) (Int.natCast_nonneg _)) (by decide +kernel); omega))) ?_) | fail))
 exact Le.slc (by simp) (fun q hq => jbw (by simpa using hq))
theorem qnb (l : List Int) (hl : l.length ≤ 1000000) : Trip Try.prog 81 [ints l] [] (.own 0 0 0 l.length) [(0, .row [] 3 1 0 l.length (encL (fun n => [iv n]) 0 l))] 1 := by
 refine zL {} 300 Try.func81 (fun c0 rdb mpb => ?_)
 (repeat' ((conv => whnf); first | refine Ob.auto ?_ | (refine Ob.intro (by ((refine ⟨by omega, by omega, by omega, ?_⟩; dsimp only; refine Int.le_trans (Int.mul_le_mul_of_nonneg_right (?_ : _ ≤ (4000001 : Int)) (Int.natCast_nonneg _)) (by decide +kernel); omega))) ?_) | fail))
 refine ⟨Le.of_eq (by simp), ⟨⟨rfl, rfl, by simp⟩, rfl, by simp, fun q hq => LeL.of_eq (jbw (by simpa using hq))⟩, trivial⟩
theorem jbx (s : Stt) (hs : SSz s) : Trip Try.prog 49 [s.av] [] (.agg [.own 4 0 0 s.at_.length, .own 8 0 0 s.vars.length, .own 13 0 0 s.chans.length, iv s.holder])
  [(4, .row [] 3 1 0 s.at_.length (encL (fun n => [iv n]) 0 s.at_)), (8, .row [] 3 1 0 s.vars.length (encL (fun n => [iv n]) 0 s.vars)), (13, .row [] 23 1 0 s.chans.length (encL (fun c => [ints c]) [] s.chans))] 14 := by
 have ha := hs.a
 have hv := hs.v
 have hc := hs.c
 have hl := hs.l
 refine zL {} 300 Try.func49 (fun c0 rdb mpb => ?_)
 ((conv => whnf); refine qaw (fun _ => rfl) (by kernel_rfl) 300 [.new [ints s.at_] (.own 0 0 0 s.at_.length) [(0, .row [] 3 1 0 s.at_.length (encL (fun n => [iv n]) 0 s.at_))] 1, .new [ints s.vars] (.own 0 0 0 s.vars.length) [(0, .row [] 3 1 0 s.vars.length (encL (fun n => [iv n]) 0 s.vars))] 1] (by kernel_rfl) ?_)
 (repeat' ((conv => whnf); first | refine Ob.auto ?_ | (refine Ob.intro (by (first | (refine ⟨by omega, by omega, by omega, ?_⟩; dsimp only; refine Int.le_trans (Int.mul_le_mul_of_nonneg_right (?_ : _ ≤ (4000001 : Int)) (Int.natCast_nonneg _)) (by decide +kernel); omega) | exact ⟨qnb s.at_ hs.a, by rfl, LeL.refl _, by kernel_rfl, by kernel_rfl, by exact qb rfl⟩ | exact ⟨qnb s.vars hs.v, by rfl, LeL.refl _, by kernel_rfl, by kernel_rfl, by exact qb rfl⟩)) ?_) | fail))
 ((conv => whnf); refine qx (fun _ => rfl) 300 1 (fun i : Nat => [(22, iv i)]) (fun i => [(13, .row [] 23 1 0 s.chans.length (fun k => [if k < i then ints (s.chans.getD k []) else .nils]))]) (fun i => i ≤ s.chans.length) (fun i => s.chans.length - i) (0) (by omega) qa ⟨qcr (fun k _ => by rw [if_neg (Nat.not_lt_zero k)]; rfl), trivial⟩ (fun _ => rfl) (by kernel_rfl) ?_; (conv => whnf))
 intro i hi
 (repeat' ((conv => whnf); first | refine Ob.auto ?_ | (apply zB <;> intro hb <;> (try simp [-List.getD_eq_getElem?_getD] at hb) <;> try (exfalso; omega))))
 ·((conv => whnf); refine qaw (fun _ => rfl) (by kernel_rfl) 300 [.con (ints (s.chans.getD i []))] (by kernel_rfl) ?_)
  (repeat' ((conv => whnf); first | refine Ob.auto ?_ | (refine Ob.intro (by (first | exact ⟨by omega, by omega⟩ | exact ⟨_, jnv (s.chans.getD i []) (hl _ (qo _ _ _ (by omega))), by rfl, LeL.refl _⟩)) ?_) | fail))
  ((conv => whnf); refine ⟨i + 1, by omega, ⟨qa, qa⟩, ⟨qa, qa⟩, ?_⟩; (first | omega | (dsimp only; omega) | skip))
 ·obtain rfl : i = s.chans.length := by omega
  exact ⟨Le.refl _, ⟨⟨rfl, rfl, rfl⟩, rfl, rfl, fun q hq => LeL.refl _⟩, ⟨⟨rfl, rfl, rfl⟩, rfl, rfl, fun q hq => LeL.refl _⟩, qcr (fun k hk => by rw [if_pos (by simpa using hk)]; rfl), trivial⟩
theorem quk (s : Stt) (hs : SSz s) : Trip Try.prog 49 [s.av] [] (.agg [.own 4 0 0 s.at_.length, .own 8 0 0 s.vars.length, .own 13 0 0 s.chans.length, iv s.holder])
  [(4, .row [] 3 1 0 s.at_.length (encL (fun n => [iv n]) 0 s.at_)), (8, .row [] 3 1 0 s.vars.length (encL (fun n => [iv n]) 0 s.vars)), (13, .row [19] 23 1 0 s.chans.length (fun k => [.own 19 k 1 (s.chans.getD k []).length])),
   (19, .fam 3 1 s.chans.length (fun _ => 1) (fun k => (s.chans.getD k []).length) (fun k => encL (fun n => [iv n]) 0 (s.chans.getD k [])))] 20 := by
 have ha := hs.a
 have hv := hs.v
 have hc := hs.c
 have hl := hs.l
 refine zL {} 300 Try.func49 (fun c0 rdb mpb => ?_)
 ((conv => whnf); refine qaw (fun _ => rfl) (by kernel_rfl) 300 [.new [ints s.at_] (.own 0 0 0 s.at_.length) [(0, .row [] 3 1 0 s.at_.length (encL (fun n => [iv n]) 0 s.at_))] 1, .new [ints s.vars] (.own 0 0 0 s.vars.length) [(0, .row [] 3 1 0 s.vars.length (encL (fun n => [iv n]) 0 s.vars))] 1] (by kernel_rfl) ?_)
 (repeat' ((conv => whnf); first | refine Ob.auto ?_ | (refine Ob.intro (by (first | (refine ⟨by omega, by omega, by omega, ?_⟩; dsimp only; refine Int.le_trans (Int.mul_le_mul_of_nonneg_right (?_ : _ ≤ (4000001 : Int)) (Int.natCast_nonneg _)) (by decide +kernel); omega) | exact ⟨qnb s.at_ hs.a, by rfl, LeL.refl _, by kernel_rfl, by kernel_rfl, by exact qb rfl⟩ | exact ⟨qnb s.vars hs.v, by rfl, LeL.refl _, by kernel_rfl, by kernel_rfl, by exact qb rfl⟩)) ?_) | fail))
 refine jhu 13 3 1 rfl (fun _ _ => rfl) ?_
 ((conv => whnf); refine jnu (fun _ => rfl) 300 1 (fun i : Nat => [(22, iv i)]) (fun i => [(13, .row [19] 23 1 0 s.chans.length (fun k => [.own 19 k (if k < i then 1 else 0) (if k < i then (s.chans.getD k []).length else 0)])), (19, .fam 3 1 s.chans.length (fun k => if k < i then 1 else 0) (fun k => if k < i then (s.chans.getD k []).length else 0) (fun k => encL (fun n => [iv n]) 0 (s.chans.getD k [])))]) (fun i => i ≤ s.chans.length) (fun i => s.chans.length - i) (0) (by omega) qa ⟨qcr (fun k _ => by rw [if_neg (Nat.not_lt_zero k), if_neg (Nat.not_lt_zero k)]), qhg (fun k _ => by rw [if_neg (Nat.not_lt_zero k)]) (fun k _ => by rw [if_neg (Nat.not_lt_zero k)]) (fun k j _ hj => absurd hj (Nat.not_lt_zero _)), trivial⟩ (fun _ => rfl) (by kernel_rfl) ?_; (conv => whnf))
 intro i hi
 (repeat' ((conv => whnf); first | refine Ob.auto ?_ | (apply zB <;> intro hb <;> (try simp [-List.getD_eq_getElem?_getD] at hb) <;> try (exfalso; omega))))
 ·have hci := hl _ (qo s.chans i [] (by omega))
  ((conv => whnf); refine qaw (fun _ => rfl) (by kernel_rfl) 300 [.new [ints (s.chans.getD i [])] (.own 0 0 0 (s.chans.getD i []).length) [(0, .row [] 3 1 0 (s.chans.getD i []).length (encL (fun n => [iv n]) 0 (s.chans.getD i [])))] 1] (by kernel_rfl) ?_)
  (repeat' ((conv => whnf); first | refine Ob.auto ?_ | (refine Ob.intro (by (first | exact ⟨by omega, by omega⟩ | exact ⟨qnb _ hci, by rfl, LeL.refl _, by kernel_rfl, by kernel_rfl, by exact qb rfl⟩)) ?_) | fail))
  ((conv => whnf); refine ⟨i + 1, by omega, ⟨_, Turn.absorb 13 19 24 i rfl rfl rfl (by omega) (by decide) (by exact if_pos rfl) (fun k _ hne => ⟨_, _, if_neg hne⟩), ⟨qa, ⟨qcr (fun k _ => ?_), qhg (fun k _ => ?_) (fun k _ => ?_) (fun k j _ hj => ?_), trivial⟩⟩, ⟨qa, qa⟩⟩, ?_⟩; (first | omega | (dsimp only; omega) | skip))
  ·by_cases hki : k = i
   ·subst hki
    refine (if_pos rfl).trans ?_
    simp
   ·refine (if_neg hki).trans ((if_neg hki).trans ?_)
    simp only [quj hki]
  ·unfold upd
   by_cases hki : k = i
   ·subst hki; simp
   ·rw [if_neg hki]; simp only [quj hki]
  ·unfold upd
   by_cases hki : k = i
   ·subst hki; simp
   ·rw [if_neg hki]; simp only [quj hki]
  ·unfold upd
   by_cases hki : k = i
   ·subst hki; rw [if_pos rfl]
   ·rw [if_neg hki]
  ·omega
 ·obtain rfl : i = s.chans.length := by omega
  exact ⟨Le.refl _, ⟨⟨rfl, rfl, rfl⟩, rfl, rfl, fun q hq => LeL.refl _⟩, ⟨⟨rfl, rfl, rfl⟩, rfl, rfl, fun q hq => LeL.refl _⟩, qcr (fun k hk => by rw [if_pos hk, if_pos hk]), qhg (fun k hk => by rw [if_pos hk]) (fun k hk => by rw [if_pos hk]) (fun _ _ _ _ => rfl), trivial⟩
theorem qkr (m : Md) (hM : ModOk m) (s : Stt) (hf : qq m s = true) (v : Mv) : Con Try.prog 48 [m.av, s.av, v.av] (.bool (qbl m s v)) := by
 have hs := qbu hM hf
 have hcl := ((qaf m s).1 hf).1.2.2.1
 have hen := qug m hM.ok s hs (fun q hq => (hM.pr q hq).ed)
 obtain ⟨k, p, e, c⟩ := v
 by_cases hc : 0 ≤ c
 ·obtain ⟨c, rfl⟩ := Int.eq_ofNat_of_zero_le hc
  refine zK {} 300 Try.func48 (fun c0 rdb => ?_)
  (repeat' ((conv => whnf); first | refine Ob.auto ?_ | refine zG 300 (fun hg => hen p e) ?_ | refine zC 300 (jbq m hM.ok s hcl c (by omega)) ?_ | refine zC 300 (jbr m hM.ok s hcl c (by omega)) ?_ | (apply zB <;> intro hb <;> (try simp [-List.getD_eq_getElem?_getD] at hb) <;> try (exfalso; omega))))
  all_goals refine Le.of_eq (congrArg AV.bool ?_)
  ·subst hb
   rw [Bool.eq_iff_iff]; simp [qbl, qjf, hf, and_assoc]
  all_goals (rw [Bool.eq_iff_iff]; simp [qbl, *])
  all_goals omega
 ·refine zK {} 300 Try.func48 (fun c0 rdb => ?_)
  (repeat' ((conv => whnf); first | refine Ob.auto ?_ | refine zG 300 (fun hg => hen p e) ?_ | (apply zB <;> intro hb <;> (try simp [-List.getD_eq_getElem?_getD] at hb) <;> try (exfalso; omega))))
  all_goals refine Le.of_eq (congrArg AV.bool ?_)
  ·subst hb
   rw [Bool.eq_iff_iff]; simp [qbl, qjf, hf, and_assoc]
  all_goals (rw [Bool.eq_iff_iff]; simp [qbl, *])
  all_goals omega
end Go.Proofs.Ytdoaagphhjggbaa
end
section
namespace Go.Proofs.Ytdoaagphhjggbaa
open List renaming getD_eq_getElem?_getD → zd
open Go Go.Sx Go.RowKit Go.St
set_option maxRecDepth 100000
set_option maxHeartbeats 4000000
def rowI (l : List Int) : SO := .row [] 3 1 0 l.length (encL (fun n => [iv n]) 0 l)
def boxS (s : Stt) : SO := .box 34 [.own 1 0 0 s.at_.length, .own 2 0 0 s.vars.length, .own 3 0 0 s.chans.length, iv s.holder]
def rowC (l : List (List Int)) : SO := .row [] 23 1 0 l.length (encL (fun c => [ints c]) [] l)
theorem qum (m : Md) (p : Int) (s : Stt) (h k : Int) : val m p { s with holder := h } k = val m p s k := by
 have key : ∀ (n : Nat) (k : Int), valN m p { s with holder := h } n k = valN m p s n k := by
  intro n
  induction n with
  | zero => intro k; rfl
  | succ n ih => intro k; unfold valN; simp only [ih]
 exact key _ k
theorem jnw {m : Md} {s : Stt} {p : Nat} {e : Ed} (h : canB m s p e = true) (h3 : e.act = 3) : 0 < (s.chans.getD e.chn.toNat []).length := by
 unfold canB qlen at h
 rw [if_neg (by omega), if_pos h3, Bool.and_eq_true] at h
 have := of_decide_eq_true h.2
 omega
theorem qhx {α : Type} (enc : α → List AV) (d : α) (l : List α) (i : Nat) (x : α) (hi : i < l.length) (j : Nat) : (if j = i then enc x else encL enc d l j) = encL enc d (l.set i x) j := by
 unfold encL
 rw [qhw]
 by_cases h : j = i
 ·rw [if_pos h, if_pos ⟨h, hi⟩]
 ·rw [if_neg h, if_neg (fun h' => h h'.1)]
theorem jnx (m : Md) (hM : ModOk m) (s : Stt) (hf : qq m s = true) (hh : s.holder = -1) (p : Nat) (hp : p < m.procs.length) (e : Ed) (he : EdOk m.tree.length m.vars.length m.chans.length (m.procs.getD p pr0).places e) (hc : canB m s p e = true) (h2 : e.act ≠ 2) :
  Trip Try.prog 50 [m.av, .ptr 0 0, iv p, .agg e.cells] [boxS s, rowI s.at_, rowI s.vars, rowC s.chans] (.tup [])
   [(0, .box 34 (qez m s p e).cells)] 4 := by
 have hs := qbu hM hf
 have h0 := ((qaf m s).1 hf).1
 have hsv := qpu m hM.ok p s hs e.expr
 have hex := he.ex
 have hvr := he.var
 have hch := he.chn
 have hto := he.to
 have hat : p < s.at_.length := by omega
 have hvl := h0.2.1
 have hcl := h0.2.2.1
 have hq := jnw hc
 have hT := quh hM hf (p := p) hto (qui hc)
 have hTs := qbu hM hT
 have hmv := jbs m hM.ok (qab m s p e) hT hTs p hp (pl := (m.procs.getD p pr0).places) (fun e he => (hM.pr _ (qo m.procs p pr0 hp)).ed e he) (hM.psz _ (qo m.procs p pr0 hp)).1
 unfold boxS rowI rowC
 refine zL {} 300 Try.func50 (fun c0 rdb mpb => ?_)
 have hA : ∀ j, (if j = p then [iv e.to] else encL (fun n => [iv n]) 0 s.at_ j) = encL (fun n => [iv n]) 0 (s.at_.set p e.to) j := qhx (fun n => [iv n]) 0 s.at_ p e.to hat
 (repeat' ((conv => whnf); first | refine zO ?_ | refine Ob.auto ?_ | refine zD 300 ?_ | (apply zB <;> intro hb <;> (try simp [-zd] at hb) <;> try (exfalso; omega))))
 ·have h1 : e.act = 1 := by assumption
  ((conv => whnf); refine zQ 300 ?_)
  ((conv => whnf); refine CallY.lend (hsv) (by repeat' (first | exact trivial | exact ⟨rfl, rfl⟩ | exact rfl | assumption | (refine And.intro ?_ ?_) | (intro _))) leA (by rfl) ?_)
  (repeat' ((conv => whnf); first | refine zA ?_ | fail))
  ((conv => whnf); refine zQ 300 ?_)
  (repeat' ((conv => whnf); first | refine zA ?_ | refine zO ?_ | refine Ob.auto ?_ | (refine CallY.con (qjb (sval m p s e.expr).1 (m.vars.getD e.var.toNat vr0).width) (by rfl) leA ?_) | refine zD 300 ?_ | fail))
  ((conv => whnf); refine qcs [0, 4, 5] 0 rfl frzA ?_)
  have hTe : qab m s p e = ⟨s.at_.set p e.to, s.vars.set e.var.toNat (trim (sval m p s e.expr).1 (m.vars.getD e.var.toNat vr0).width), s.chans, -1⟩ := by
   have h3 := hex (.inl h1)
   simp [qab, h1, sval, h3, hf, if_neg (show ¬ e.expr < 0 by omega)]
  refine qpx 0 (qab m s p e).cells rfl (by
   rw [hTe]
   exact ⟨Le.slc (by simp) (fun j hj => hA j), Le.slc (by simp) (fun j hj => qhx (fun n => [iv n]) 0 s.vars e.var.toNat _ (by omega) j), Le.refl _, Le.of_eq (congrArg (AV.int _) hh), trivial⟩) ?_
  (repeat' ((conv => whnf); first | refine zA ?_ | refine Ob.auto ?_ | (refine CallZ.con (fun hg => hmv) qhl (by rfl) ?_) | (refine zQ 300 ?_) | (apply zB <;> intro hb <;> (try simp [-zd] at hb) <;> try (exfalso; omega))))
  ·exact ⟨Le.refl _, ⟨rfl, Le.refl _, Le.refl _, Le.refl _, Le.of_eq (congrArg (AV.int _) (if_pos hb).symm), trivial⟩, trivial⟩
  ·refine ⟨Le.refl _, ⟨rfl, Le.refl _, Le.refl _, Le.refl _, Le.of_eq (congrArg (AV.int _) ?_), trivial⟩, trivial⟩
   refine Eq.trans (by rw [hTe]) (if_neg (fun h => ?_)).symm
   have := hb h.1; rw [h.2] at this; cases this
 ·have h3 : e.act = 3 := by assumption
  ((conv => whnf); refine zQ 300 ?_)
  (repeat' ((conv => whnf); first | refine zA ?_ | refine zO ?_ | refine Ob.auto ?_ | (refine CallY.con (qjb ((s.chans.getD e.chn.toNat []).getD 0 0) (m.vars.getD e.var.toNat vr0).width) (by rfl) leA ?_) | refine zD 300 ?_ | fail))
  ((conv => whnf); refine qcs [0, 4, 5] 0 rfl frzA ?_)
  have hD : ∀ j, LeL (if j = e.chn.toNat then [AV.slc 1 ((s.chans.getD e.chn.toNat []).length - 1) fun i => encL (fun n => [iv n]) 0 (s.chans.getD e.chn.toNat []) (1 + i)] else encL (fun c => [ints c]) [] s.chans j) (encL (fun c => [ints c]) [] (s.chans.set e.chn.toNat ((s.chans.getD e.chn.toNat []).drop 1)) j) := fun j => by
   rw [← qhx (fun c => [ints c]) [] s.chans e.chn.toNat _ (by omega) j]
   by_cases hj : j = e.chn.toNat
   ·rw [if_pos hj, if_pos hj]
    refine ⟨Le.slc (by simp) (fun q _ => ?_), trivial⟩
    unfold encL
    rw [zd (l := List.drop 1 _), List.getElem?_drop, ← zd]
   ·rw [if_neg hj, if_neg hj]; exact LeL.refl _
  have hTe : qab m s p e = ⟨s.at_.set p e.to, s.vars.set e.var.toNat (trim ((s.chans.getD e.chn.toNat []).getD 0 0) (m.vars.getD e.var.toNat vr0).width), s.chans.set e.chn.toNat ((s.chans.getD e.chn.toNat []).drop 1), -1⟩ := by
   simp [qab, h3]
  refine qpx 0 (qab m s p e).cells rfl (by
   rw [hTe]
   refine ⟨Le.slc (by simp) (fun j hj => hA j), Le.slc (by simp) (fun j hj => qhx (fun n => [iv n]) 0 s.vars e.var.toNat _ (by omega) j), Le.slcL (by simp) (fun j hj => ?_), Le.of_eq (congrArg (AV.int _) hh), trivial⟩
   exact hD j) ?_
  (repeat' ((conv => whnf); first | refine zA ?_ | refine Ob.auto ?_ | (refine CallZ.con (fun hg => hmv) qhl (by rfl) ?_) | (refine zQ 300 ?_) | (apply zB <;> intro hb <;> (try simp [-zd] at hb) <;> try (exfalso; omega))))
  ·exact ⟨Le.refl _, ⟨rfl, Le.refl _, Le.refl _, Le.refl _, Le.of_eq (congrArg (AV.int _) (if_pos hb).symm), trivial⟩, trivial⟩
  ·refine ⟨Le.refl _, ⟨rfl, Le.refl _, Le.refl _, Le.refl _, Le.of_eq (congrArg (AV.int _) ?_), trivial⟩, trivial⟩
   refine Eq.trans (by rw [hTe]) (if_neg (fun h => ?_)).symm
   have := hb h.1; rw [h.2] at this; cases this
 ·((conv => whnf); refine qcs [0, 4, 5] 0 rfl frzA ?_)
  have hTe : qab m s p e = ⟨s.at_.set p e.to, s.vars, s.chans, -1⟩ := by simp [qab, h2, *]
  refine qpx 0 (qab m s p e).cells rfl (by
   rw [hTe]
   exact ⟨Le.slc (by simp) (fun j hj => hA j), Le.refl _, Le.refl _, Le.of_eq (congrArg (AV.int _) hh), trivial⟩) ?_
  (repeat' ((conv => whnf); first | refine zA ?_ | refine Ob.auto ?_ | (refine CallZ.con (fun hg => hmv) qhl (by rfl) ?_) | (refine zQ 300 ?_) | (apply zB <;> intro hb <;> (try simp [-zd] at hb) <;> try (exfalso; omega))))
  ·exact ⟨Le.refl _, ⟨rfl, Le.refl _, Le.refl _, Le.refl _, Le.of_eq (congrArg (AV.int _) (if_pos hb).symm), trivial⟩, trivial⟩
  ·refine ⟨Le.refl _, ⟨rfl, Le.refl _, Le.refl _, Le.refl _, Le.of_eq (congrArg (AV.int _) ?_), trivial⟩, trivial⟩
   refine Eq.trans (by rw [hTe]) (if_neg (fun h => ?_)).symm
   have := hb h.1; rw [h.2] at this; cases this
end Go.Proofs.Ytdoaagphhjggbaa
end
