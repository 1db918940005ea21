/- Some texts of the library, one behind the other. -/
import Derived.Test.YtdoaagphhjggbaaGreatQ35
import Derived.Test.YtdoaagphhjggbaaGreatQ34
import Derived.Test.YtdoaagphhjggbaaGreatQ2
section
namespace Go.Proofs.YtdoaagphhjggbaaGreat
open List renaming getD_eq_getElem?_getD → zd
open Go Go.Sx Go.RowKit Go.St
set_option maxRecDepth 100000
set_option maxHeartbeats 4000000
def rowI (l : List Int) : SO := .row [] 3 1 0 l.length (encL (fun n => [iv n]) 0 l)
def boxS (s : Stt) : SO := .box 34 [.own 1 0 0 s.at_.length, .own 2 0 0 s.vars.length, .own 3 0 0 s.chans.length, iv s.holder]
def rowC (l : List (List Int)) : SO := .row [] 23 1 0 l.length (encL (fun c => [ints c]) [] l)
theorem jeh (m : Md) (p : Int) (s : Stt) (h k : Int) : val m p { s with holder := h } k = val m p s k := by
 have key : ∀ (n : Nat) (k : Int), valN m p { s with holder := h } n k = valN m p s n k := by
  intro n
  induction n with
  | zero => intro k; rfl
  | succ n ih => intro k; unfold valN; simp only [ih]
 exact key _ k
theorem jei {m : Md} {s : Stt} {p : Nat} {e : Ed} (h : canB m s p e = true) (h3 : e.act = 3) : 0 < (s.chans.getD e.chn.toNat []).length := by
 unfold canB qlen at h
 rw [if_neg (by omega), if_pos h3, Bool.and_eq_true] at h
 have := of_decide_eq_true h.2
 omega
theorem qcd {α : Type} (enc : α → List AV) (d : α) (l : List α) (i : Nat) (x : α) (hi : i < l.length) (j : Nat) : (if j = i then enc x else encL enc d l j) = encL enc d (l.set i x) j := by
 unfold encL
 rw [qgx]
 by_cases h : j = i
 ·rw [if_pos h, if_pos ⟨h, hi⟩]
 ·rw [if_neg h, if_neg (fun h' => h h'.1)]
theorem jrm (m : Md) (hM : ModOk m) (s : Stt) (hf : qi m s = true) (hh : s.holder = -1) (p : Nat) (hp : p < m.procs.length) (e : Ed) (he : EdOk m.tree.length m.vars.length m.chans.length (m.procs.getD p pr0).places e) (hc : canB m s p e = true) (h2 : e.act ≠ 2) :
  Trip Tryz.prog 52 [m.av, .ptr 0 0, iv p, .agg e.cells] [boxS s, rowI s.at_, rowI s.vars, rowC s.chans] (.tup [])
   [(0, .box 34 (qcv m s p e).cells)] 4 := by
 have hs := qbx hM hf
 have h0 := ((ji m s).1 hf).1
 have hsv := qwd m hM.ok p s hs e.expr
 have hex := he.ex
 have hvr := he.var
 have hch := he.chn
 have hto := he.to
 have hat : p < s.at_.length := by omega
 have hvl := h0.2.1
 have hcl := h0.2.2.1
 have hq := jei hc
 have hT := qoj hM hf (p := p) hto (qok hc)
 have hTs := qbx hM hT
 have hmv := jdw m hM.ok (qm m s p e) hT hTs p hp (pl := (m.procs.getD p pr0).places) (fun e he => (hM.pr _ (ql m.procs p pr0 hp)).ed e he) (hM.psz _ (ql m.procs p pr0 hp)).1
 unfold boxS rowI rowC
 refine zL {} 300 Tryz.func52 (fun c0 rdb mpb => ?_)
 have hA : ∀ j, (if j = p then [iv e.to] else encL (fun n => [iv n]) 0 s.at_ j) = encL (fun n => [iv n]) 0 (s.at_.set p e.to) j := qcd (fun n => [iv n]) 0 s.at_ p e.to hat
 (repeat' ((conv => whnf); first | refine zO ?_ | refine Ob.auto ?_ | refine zD 300 ?_ | (apply zB <;> intro hb <;> (try simp [-zd] at hb) <;> try (exfalso; omega))))
 ·have h1 : e.act = 1 := by assumption
  ((conv => whnf); refine zQ 300 ?_)
  ((conv => whnf); refine CallY.lend (hsv) (by repeat' (first | exact trivial | exact ⟨rfl, rfl⟩ | exact rfl | assumption | (refine And.intro ?_ ?_) | (intro _))) leA (by rfl) ?_)
  (repeat' ((conv => whnf); first | refine zA ?_ | fail))
  ((conv => whnf); refine zQ 300 ?_)
  (repeat' ((conv => whnf); first | refine zA ?_ | refine zO ?_ | refine Ob.auto ?_ | (refine CallY.con (qlu (sval m p s e.expr).1 (m.vars.getD e.var.toNat vr0).width) (by rfl) leA ?_) | refine zD 300 ?_ | fail))
  ((conv => whnf); refine qdi [0, 4, 5] 0 rfl frzA ?_)
  have hTe : qm m s p e = ⟨s.at_.set p e.to, s.vars.set e.var.toNat (trim (sval m p s e.expr).1 (m.vars.getD e.var.toNat vr0).width), s.chans, -1⟩ := by
   have h3 := hex (.inl h1)
   simp [qm, h1, sval, h3, hf, if_neg (show ¬ e.expr < 0 by omega)]
  refine qro 0 (qm m s p e).cells rfl (by
   rw [hTe]
   exact ⟨Le.slc (by simp) (fun j hj => hA j), Le.slc (by simp) (fun j hj => qcd (fun n => [iv n]) 0 s.vars e.var.toNat _ (by omega) j), Le.refl _, Le.of_eq (congrArg (AV.int _) hh), trivial⟩) ?_
  (repeat' ((conv => whnf); first | refine zA ?_ | refine Ob.auto ?_ | (refine CallZ.con (fun hg => hmv) qho (by rfl) ?_) | (refine zQ 300 ?_) | (apply zB <;> intro hb <;> (try simp [-zd] at hb) <;> try (exfalso; omega))))
  ·exact ⟨Le.refl _, ⟨rfl, Le.refl _, Le.refl _, Le.refl _, Le.of_eq (congrArg (AV.int _) (if_pos hb).symm), trivial⟩, trivial⟩
  ·refine ⟨Le.refl _, ⟨rfl, Le.refl _, Le.refl _, Le.refl _, Le.of_eq (congrArg (AV.int _) ?_), trivial⟩, trivial⟩
   refine Eq.trans (by rw [hTe]) (if_neg (fun h => ?_)).symm
   have := hb h.1; rw [h.2] at this; cases this
 ·have h3 : e.act = 3 := by assumption
  ((conv => whnf); refine zQ 300 ?_)
  (repeat' ((conv => whnf); first | refine zA ?_ | refine zO ?_ | refine Ob.auto ?_ | (refine CallY.con (qlu ((s.chans.getD e.chn.toNat []).getD 0 0) (m.vars.getD e.var.toNat vr0).width) (by rfl) leA ?_) | refine zD 300 ?_ | fail))
  ((conv => whnf); refine qdi [0, 4, 5] 0 rfl frzA ?_)
  have hD : ∀ j, LeL (if j = e.chn.toNat then [AV.slc 1 ((s.chans.getD e.chn.toNat []).length - 1) fun i => encL (fun n => [iv n]) 0 (s.chans.getD e.chn.toNat []) (1 + i)] else encL (fun c => [ints c]) [] s.chans j) (encL (fun c => [ints c]) [] (s.chans.set e.chn.toNat ((s.chans.getD e.chn.toNat []).drop 1)) j) := fun j => by
   rw [← qcd (fun c => [ints c]) [] s.chans e.chn.toNat _ (by omega) j]
   by_cases hj : j = e.chn.toNat
   ·rw [if_pos hj, if_pos hj]
    refine ⟨Le.slc (by simp) (fun q _ => ?_), trivial⟩
    unfold encL
    rw [zd (l := List.drop 1 _), List.getElem?_drop, ← zd]
   ·rw [if_neg hj, if_neg hj]; exact LeL.refl _
  have hTe : qm m s p e = ⟨s.at_.set p e.to, s.vars.set e.var.toNat (trim ((s.chans.getD e.chn.toNat []).getD 0 0) (m.vars.getD e.var.toNat vr0).width), s.chans.set e.chn.toNat ((s.chans.getD e.chn.toNat []).drop 1), -1⟩ := by
   simp [qm, h3]
  refine qro 0 (qm m s p e).cells rfl (by
   rw [hTe]
   refine ⟨Le.slc (by simp) (fun j hj => hA j), Le.slc (by simp) (fun j hj => qcd (fun n => [iv n]) 0 s.vars e.var.toNat _ (by omega) j), Le.slcL (by simp) (fun j hj => ?_), Le.of_eq (congrArg (AV.int _) hh), trivial⟩
   exact hD j) ?_
  (repeat' ((conv => whnf); first | refine zA ?_ | refine Ob.auto ?_ | (refine CallZ.con (fun hg => hmv) qho (by rfl) ?_) | (refine zQ 300 ?_) | (apply zB <;> intro hb <;> (try simp [-zd] at hb) <;> try (exfalso; omega))))
  ·exact ⟨Le.refl _, ⟨rfl, Le.refl _, Le.refl _, Le.refl _, Le.of_eq (congrArg (AV.int _) (if_pos hb).symm), trivial⟩, trivial⟩
  ·refine ⟨Le.refl _, ⟨rfl, Le.refl _, Le.refl _, Le.refl _, Le.of_eq (congrArg (AV.int _) ?_), trivial⟩, trivial⟩
   refine Eq.trans (by rw [hTe]) (if_neg (fun h => ?_)).symm
   have := hb h.1; rw [h.2] at this; cases this
 ·((conv => whnf); refine qdi [0, 4, 5] 0 rfl frzA ?_)
  have hTe : qm m s p e = ⟨s.at_.set p e.to, s.vars, s.chans, -1⟩ := by simp [qm, h2, *]
  refine qro 0 (qm m s p e).cells rfl (by
   rw [hTe]
   exact ⟨Le.slc (by simp) (fun j hj => hA j), Le.refl _, Le.refl _, Le.of_eq (congrArg (AV.int _) hh), trivial⟩) ?_
  (repeat' ((conv => whnf); first | refine zA ?_ | refine Ob.auto ?_ | (refine CallZ.con (fun hg => hmv) qho (by rfl) ?_) | (refine zQ 300 ?_) | (apply zB <;> intro hb <;> (try simp [-zd] at hb) <;> try (exfalso; omega))))
  ·exact ⟨Le.refl _, ⟨rfl, Le.refl _, Le.refl _, Le.refl _, Le.of_eq (congrArg (AV.int _) (if_pos hb).symm), trivial⟩, trivial⟩
  ·refine ⟨Le.refl _, ⟨rfl, Le.refl _, Le.refl _, Le.refl _, Le.of_eq (congrArg (AV.int _) ?_), trivial⟩, trivial⟩
   refine Eq.trans (by rw [hTe]) (if_neg (fun h => ?_)).symm
   have := hb h.1; rw [h.2] at this; cases this
end Go.Proofs.YtdoaagphhjggbaaGreat
end
section
namespace Go.Proofs.YtdoaagphhjggbaaGreat
open Go Go.Sx Go.RowKit Go.St
set_option maxRecDepth 100000
set_option maxHeartbeats 4000000
def rowF (l : List (List Int)) : SO := .row [4] 23 1 0 l.length (fun k => [.own 4 k 1 (l.getD k []).length])
def famF (l : List (List Int)) : SO := .fam 3 1 l.length (fun _ => 1) (fun k => (l.getD k []).length) (fun k => encL (fun n => [iv n]) 0 (l.getD k []))
theorem qlz {L : List Int} {x : Int} {g : Nat → List AV} (hg : g 0 = [iv x]) {j : Nat} (hj : j < L.length + 1) : appF L.length (encL (fun n => [iv n]) 0 L) 1 g j = encL (fun n => [iv n]) 0 (L ++ [x]) j := by
 unfold appF encL
 rw [qio]
 by_cases hl : j < L.length
 ·rw [if_pos hl, if_pos hl]
 ·obtain rfl : j = L.length := by omega
  rw [if_neg hl, if_neg hl, if_pos rfl, if_pos (by omega), Nat.sub_self, hg]
theorem jrn (m : Md) (hM : ModOk m) (s : Stt) (hf : qi m s = true) (hh : s.holder = -1) (p : Nat) (hp : p < m.procs.length) (e : Ed) (he : EdOk m.tree.length m.vars.length m.chans.length (m.procs.getD p pr0).places e) (hc : canB m s p e = true) (h2 : e.act = 2) :
  Trip Tryz.prog 52 [m.av, .ptr 0 0, iv p, .agg e.cells] [boxS s, rowI s.at_, rowI s.vars, rowF s.chans, famF s.chans] (.tup [])
   [(0, .box 34 (qcv m s p e).cells)] 5 := by
 have hs := qbx hM hf
 have h0 := ((ji m s).1 hf).1
 have hsv := qwd m hM.ok p s hs e.expr
 have hex := he.ex
 have hvr := he.var
 have hch := he.chn
 have hto := he.to
 have hat : p < s.at_.length := by omega
 have hvl := h0.2.1
 have hcl := h0.2.2.1
 have hT := qoj hM hf (p := p) hto (qok hc)
 have hTs := qbx hM hT
 have hmv := jdw m hM.ok (qm m s p e) hT hTs p hp (pl := (m.procs.getD p pr0).places) (fun e he => (hM.pr _ (ql m.procs p pr0 hp)).ed e he) (hM.psz _ (ql m.procs p pr0 hp)).1
 have hA : ∀ j, (if j = p then [iv e.to] else encL (fun n => [iv n]) 0 s.at_ j) = encL (fun n => [iv n]) 0 (s.at_.set p e.to) j := qcd (fun n => [iv n]) 0 s.at_ p e.to hat
 unfold boxS rowI rowF famF
 refine zL {} 300 Tryz.func52 (fun c0 rdb mpb => ?_)
 (repeat' ((conv => whnf); first | (apply zB <;> intro hb <;> (try simp [-List.getD_eq_getElem?_getD] at hb) <;> try (exfalso; omega))))
 ((conv => whnf); refine zQ 300 ?_)
 ((conv => whnf); refine CallY.lend (hsv) (by repeat' (first | exact trivial | exact ⟨rfl, rfl⟩ | exact rfl | assumption | (refine And.intro ?_ ?_) | (intro _))) leA (by rfl) ?_)
 (repeat' ((conv => whnf); first | refine zA ?_ | fail))
 ((conv => whnf); refine qbe (fun _ => rfl) (by kernel_rfl) 300 [.con (iv (trim (sval m p s e.expr).1 (m.chans.getD e.chn.toNat ch0).width))] (by kernel_rfl) ?_)
 (repeat' ((conv => whnf); first | refine zO ?_ | refine Ob.auto ?_ | (refine Ob.intro (by (first | exact ⟨by omega, by omega⟩ | exact ⟨_, qlu (sval m p s e.expr).1 (m.chans.getD e.chn.toNat ch0).width, by rfl, LeL.refl _⟩)) ?_) | refine zD 300 ?_ | refine Ob.intro ?_ ?_ | fail))
 ·have hcl2 := hTs.l
  have hl := hs.l _ (ql s.chans e.chn.toNat [] (by omega))
  refine ⟨by omega, ⟨rfl, rfl⟩, by omega, ?_⟩
  dsimp only
  refine Nat.le_trans (Nat.mul_le_mul_right _ (?_ : _ ≤ 4000001)) (by decide +kernel); omega
 ·exact ⟨⟨⟨rfl, rfl⟩, by omega⟩, by omega, by simp [upd], by simp [upd]⟩
 have hTe : qm m s p e = ⟨s.at_.set p e.to, s.vars, s.chans.set e.chn.toNat (s.chans.getD e.chn.toNat [] ++ [trim (sval m p s e.expr).1 (m.chans.getD e.chn.toNat ch0).width]), -1⟩ := by
  have h3 := hex (.inr (.inl h2))
  simp [qm, h2, sval, h3, hf, if_neg (show ¬ e.expr < 0 by omega)]
 generalize hmsg : trim (sval m p s e.expr).1 (m.chans.getD e.chn.toNat ch0).width = msg at hTe ⊢
 have hlen : ∀ k, ((s.chans.set e.chn.toNat (s.chans.getD e.chn.toNat [] ++ [msg])).getD k []).length = if k = e.chn.toNat then (s.chans.getD e.chn.toNat []).length + 1 else (s.chans.getD k []).length := fun k => by
  rw [qgx]
  by_cases h : k = e.chn.toNat
  ·rw [if_pos ⟨h, by omega⟩, if_pos h]; simp
  ·rw [if_neg (fun h' => h h'.1), if_neg h]
 refine jdz 3 (.row [4] 23 1 0 s.chans.length (fun k => [.own 4 k 1 ((s.chans.set e.chn.toNat (s.chans.getD e.chn.toNat [] ++ [msg])).getD k []).length])) rfl ⟨⟨rfl, rfl, rfl⟩, rfl, rfl, fun k hk => ?_⟩ ?_
 ·show LeL (if k = e.chn.toNat then [AV.own 4 e.chn.toNat 1 ((s.chans.getD e.chn.toNat []).length + 1)] else [AV.own 4 k 1 (s.chans.getD k []).length]) _
  dsimp only
  rw [hlen]
  by_cases h : k = e.chn.toNat
  ·rw [if_pos h, if_pos h, h]; exact LeL.refl _
  ·rw [if_neg h, if_neg h]; exact LeL.refl _
 refine jdz 4 (.fam 3 1 s.chans.length (fun _ => 1) (fun k => ((s.chans.set e.chn.toNat (s.chans.getD e.chn.toNat [] ++ [msg])).getD k []).length) (fun k => encL (fun n => [iv n]) 0 ((s.chans.set e.chn.toNat (s.chans.getD e.chn.toNat [] ++ [msg])).getD k []))) rfl (qek (fun k hk => ?_) (fun k hk => ?_) (fun k j hk hj => ?_)) ?_
 ·show Go.Sx.upd _ _ _ k = 1
  unfold Go.Sx.upd
  split <;> rfl
 ·exact (hlen k).symm
 ·show (Go.Sx.upd (α := Nat → List AV) _ _ _ k) j = _
  unfold Go.Sx.upd
  rw [qgx]
  by_cases h : k = e.chn.toNat
  ·rw [if_pos h, if_pos ⟨h, by omega⟩]
   have hj2 : j < (if k = e.chn.toNat then (s.chans.getD e.chn.toNat []).length + 1 else (s.chans.getD k []).length) := hj
   rw [if_pos h] at hj2
   exact qlz rfl hj2
  ·rw [if_neg h, if_neg (fun h' => h h'.1)]
 ((conv => whnf); refine qdi [0, 5, 6] 0 rfl (by repeat' (first | exact trivial | exact ⟨rfl, rfl⟩ | exact ⟨rfl, rfl, rfl⟩ | assumption | (refine And.intro ?_ ?_) | (intro _))) ?_)
 refine qro 0 (qm m s p e).cells rfl (by
  rw [hTe]
  exact ⟨Le.slc (by simp) (fun j hj => hA j), Le.refl _, Le.slc (by simp) (fun j hj => rfl), Le.of_eq (congrArg (AV.int _) hh), trivial⟩) ?_
 (repeat' ((conv => whnf); first | refine zA ?_ | refine Ob.auto ?_ | (refine CallZ.con (fun hg => hmv) qho (by rfl) ?_) | (refine zQ 300 ?_) | (apply zB <;> intro hb <;> (try simp [-List.getD_eq_getElem?_getD] at hb) <;> try (exfalso; omega))))
 ·exact ⟨Le.refl _, ⟨rfl, Le.refl _, Le.refl _, Le.refl _, Le.of_eq (congrArg (AV.int _) (if_pos hb).symm), trivial⟩, trivial⟩
 ·refine ⟨Le.refl _, ⟨rfl, Le.refl _, Le.refl _, Le.refl _, Le.of_eq (congrArg (AV.int _) ?_), trivial⟩, trivial⟩
  refine Eq.trans (by rw [hTe]) (if_neg (fun h => ?_)).symm
  have := hb h.1; rw [h.2] at this; cases this
end Go.Proofs.YtdoaagphhjggbaaGreat
end
