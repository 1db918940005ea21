/- Some texts of the library, one behind the other. -/
import Derived.Test.YtdoaagphhjggbaaQ36
import Derived.Test.YtdoaagphhjggbaaQ2
import Derived.Test.YtdoaagphhjggbaaQ32
import Derived.Test.YtdoaagphhjggbaaQ4
import Derived.Test.YtdoaagphhjggbaaQ37
section
namespace Go.Proofs.Ytdoaagphhjggbaa
open Go Go.Sx Go.RowKit Go.St
set_option maxRecDepth 100000
set_option maxHeartbeats 4000000
theorem jow (m : Md) (hM : ModOk m) (s : Stt) (hf : qq m s = true) (hh : s.holder = -1) (p : Nat) (hp : p < m.procs.length) (e : Ed) (he : EdOk m.tree.length m.vars.length m.chans.length (m.procs.getD p pr0).places e) (hc : canB m s p e = true) (h2 : e.act = 2) (hkp : e.keep = false) :
  Trip Try.prog 50 [m.av, .ptr 0 0, iv p, .agg e.cells] [boxS s, rowI s.at_, rowI s.vars, rowF s.chans, famF s.chans] (.tup [])
   [(0, boxS (qab m s p e)), (1, rowI (qab m s p e).at_), (2, rowI (qab m s p e).vars), (3, rowF (qab m s p e).chans), (4, famF (qab m s p e).chans)] 5 := by
 have hs := qbu hM hf
 have h0 := ((qaf m s).1 hf).1
 have hsv := qpu m hM.ok p s hs e.expr
 have hex := he.ex
 have hvr := he.var
 have hch := he.chn
 have hto := he.to
 have hat : p < s.at_.length := by omega
 have hvl := h0.2.1
 have hcl := h0.2.2.1
 have hT := quh hM hf (p := p) hto (qui hc)
 have hTs := qbu hM hT
 have hA : ∀ j, (if j = p then [iv e.to] else encL (fun n => [iv n]) 0 s.at_ j) = encL (fun n => [iv n]) 0 (s.at_.set p e.to) j := qhx (fun n => [iv n]) 0 s.at_ p e.to hat
 unfold boxS rowI rowF famF
 refine zL {} 300 Try.func50 (fun c0 rdb mpb => ?_)
 (repeat' ((conv => whnf); first | (apply zB <;> intro hb <;> (try simp [-List.getD_eq_getElem?_getD] at hb) <;> try (exfalso; omega))))
 ((conv => whnf); refine zQ 300 ?_)
 ((conv => whnf); refine CallY.lend (hsv) (by repeat' (first | exact trivial | exact ⟨rfl, rfl⟩ | exact rfl | assumption | (refine And.intro ?_ ?_) | (intro _))) leA (by rfl) ?_)
 (repeat' ((conv => whnf); first | refine zA ?_ | fail))
 ((conv => whnf); refine qaw (fun _ => rfl) (by kernel_rfl) 300 [.con (iv (trim (sval m p s e.expr).1 (m.chans.getD e.chn.toNat ch0).width))] (by kernel_rfl) ?_)
 (repeat' ((conv => whnf); first | refine zO ?_ | refine Ob.auto ?_ | (refine Ob.intro (by (first | exact ⟨by omega, by omega⟩ | exact ⟨_, qjb (sval m p s e.expr).1 (m.chans.getD e.chn.toNat ch0).width, by rfl, LeL.refl _⟩)) ?_) | refine zD 300 ?_ | refine Ob.intro ?_ ?_ | fail))
 ·have hcl2 := hTs.l
  have hl := hs.l _ (qo s.chans e.chn.toNat [] (by omega))
  refine ⟨by omega, ⟨rfl, rfl⟩, by omega, ?_⟩
  dsimp only
  refine Nat.le_trans (Nat.mul_le_mul_right _ (?_ : _ ≤ 4000001)) (by decide +kernel); omega
 ·exact ⟨⟨⟨rfl, rfl⟩, by omega⟩, by omega, by simp [upd], by simp [upd]⟩
 have hTe : qab m s p e = ⟨s.at_.set p e.to, s.vars, s.chans.set e.chn.toNat (s.chans.getD e.chn.toNat [] ++ [trim (sval m p s e.expr).1 (m.chans.getD e.chn.toNat ch0).width]), -1⟩ := by
  have h3 := hex (.inr (.inl h2))
  simp [qab, h2, sval, h3, hf, if_neg (show ¬ e.expr < 0 by omega)]
 generalize hmsg : trim (sval m p s e.expr).1 (m.chans.getD e.chn.toNat ch0).width = msg at hTe ⊢
 have hlen : ∀ k, ((s.chans.set e.chn.toNat (s.chans.getD e.chn.toNat [] ++ [msg])).getD k []).length = if k = e.chn.toNat then (s.chans.getD e.chn.toNat []).length + 1 else (s.chans.getD k []).length := fun k => by
  rw [qhw]
  by_cases h : k = e.chn.toNat
  ·rw [if_pos ⟨h, by omega⟩, if_pos h]; simp
  ·rw [if_neg (fun h' => h h'.1), if_neg h]
 refine qpy 3 (.row [4] 23 1 0 s.chans.length (fun k => [.own 4 k 1 ((s.chans.set e.chn.toNat (s.chans.getD e.chn.toNat [] ++ [msg])).getD k []).length])) rfl ⟨⟨rfl, rfl, rfl⟩, rfl, rfl, fun k hk => ?_⟩ ?_
 ·show LeL (if k = e.chn.toNat then [AV.own 4 e.chn.toNat 1 ((s.chans.getD e.chn.toNat []).length + 1)] else [AV.own 4 k 1 (s.chans.getD k []).length]) _
  dsimp only
  rw [hlen]
  by_cases h : k = e.chn.toNat
  ·rw [if_pos h, if_pos h, h]; exact LeL.refl _
  ·rw [if_neg h, if_neg h]; exact LeL.refl _
 refine qpy 4 (.fam 3 1 s.chans.length (fun _ => 1) (fun k => ((s.chans.set e.chn.toNat (s.chans.getD e.chn.toNat [] ++ [msg])).getD k []).length) (fun k => encL (fun n => [iv n]) 0 ((s.chans.set e.chn.toNat (s.chans.getD e.chn.toNat [] ++ [msg])).getD k []))) rfl (qhg (fun k hk => ?_) (fun k hk => ?_) (fun k j hk hj => ?_)) ?_
 ·show Go.Sx.upd _ _ _ k = 1
  unfold Go.Sx.upd
  split <;> rfl
 ·exact (hlen k).symm
 ·show (Go.Sx.upd (α := Nat → List AV) _ _ _ k) j = _
  unfold Go.Sx.upd
  rw [qhw]
  by_cases h : k = e.chn.toNat
  ·rw [if_pos h, if_pos ⟨h, by omega⟩]
   have hj2 : j < (if k = e.chn.toNat then (s.chans.getD e.chn.toNat []).length + 1 else (s.chans.getD k []).length) := hj
   rw [if_pos h] at hj2
   exact qun rfl hj2
  ·rw [if_neg h, if_neg (fun h' => h h'.1)]
 ((conv => whnf); refine zQ 300 ?_)
 (repeat' ((conv => whnf); first | refine Ob.auto ?_ | fail))
 ((conv => whnf); refine CallZ.no (.bool false) hkp ?_)
 (repeat' ((conv => whnf); first | refine zA ?_ | refine Ob.auto ?_ | (apply zB <;> intro hb <;> (try simp [-List.getD_eq_getElem?_getD] at hb) <;> try (exfalso; omega))))
 rw [hTe]
 refine ⟨Le.refl _, ?_, ?_, ?_, ?_, ?_, trivial⟩
 ·exact ⟨rfl, Le.of_eq (congrArg (AV.own 1 0 0) (by simp)), Le.refl _, Le.of_eq (congrArg (AV.own 3 0 0) (by simp)), Le.of_eq (congrArg (AV.int _) hh), trivial⟩
 ·exact ⟨⟨rfl, rfl, by simp⟩, rfl, by simp, fun q hq => LeL.of_eq (hA q)⟩
 ·exact SoLe.refl _
 ·exact ⟨⟨rfl, rfl, by simp⟩, rfl, by simp, fun q hq => LeL.refl _⟩
 ·exact ⟨⟨rfl, rfl⟩, by simp, fun k hk => ⟨rfl, rfl⟩, fun k j hk hj => LeL.refl _⟩
theorem qqc {m : Md} {s : Stt} {p : Nat} {e : Ed} (ha : e.act = 2) : qab m s p e = ⟨s.at_.set p e.to, s.vars, s.chans.set e.chn.toNat (s.chans.getD e.chn.toNat [] ++ [trim (if e.expr < 0 then 0 else (val m p s e.expr).1) (m.chans.getD e.chn.toNat ch0).width]), -1⟩ := by
 unfold qab
 rw [if_neg (by omega), if_pos ha]
theorem jox (m : Md) (hM : ModOk m) (s : Stt) (P E : Nat) (hf : qq m s = true) (h : qbl m s ⟨0, P, E, 0⟩ = true) (ha : ((qp m P).getD E ed0).act = 2) (hkp : ((qp m P).getD E ed0).keep = false) :
  Trip Try.prog 23 [m.av, .agg [ints s.at_, .own 0 0 0 s.vars.length, slcL (fun l => [ints l]) [] 1 s.chans, iv s.holder], (⟨0, P, E, 0⟩ : Mv).av] [rowI s.vars] (.tup [.agg [ints (qdv m s ⟨0, P, E, 0⟩).at_, .own 13 0 0 s.vars.length, slcL (fun l => [ints l]) [] 1 (qdv m s ⟨0, P, E, 0⟩).chans, iv (-1)], .bool true])
   [(13, rowI s.vars)] 14 := by
 have hs := qbu hM hf
 have hal := qkr m hM s hf ⟨0, P, E, 0⟩
 have hft := qcz m s hs
 rw [h] at hal
 rw [hf] at hft
 unfold qbl at h
 rw [if_pos rfl, Bool.and_eq_true, Bool.and_eq_true] at h
 obtain ⟨h2, h3, h4⟩ := h
 have h3 := of_decide_eq_true h3
 simp only at h3
 have h5 : P < m.procs.length := by omega
 have h6 : E < (qp m P).length := by have := h3.2.2.2; rw [Int.toNat_natCast] at this; omega
 have h6' : E < (m.procs.getD P pr0).edges.length := h6
 have hed := edOk hM h5 h6
 have hf0 := qpv hf (-1) ⟨Int.le_refl _, by omega⟩
 have hfo := jow m hM { s with holder := -1 } hf0 rfl P h5 ((qp m P).getD E ed0) hed (by rw [qup]; exact h4) ha hkp
 unfold rowI
 refine zM {} 300 Try.func23 (fun c0 rdb mpb => ?_)
 (repeat' ((conv => whnf); first | refine zE 300 (hft) ?_ | fail))
 refine jov (fun _ => rfl) 300 (fun _ => hal) (fun hg => ⟨fun _ => ?_, fun _ => ?_, fun _ => ?_, trivial⟩) (fun hg => And.intro (by exact Le.cnd hg) (And.intro (Le.trans (by exact Le.cnd hg) ?_) (And.intro (by exact Le.cnd hg) trivial))) (by rfl) (by kernel_rfl) ?_
 ·repeat' (first | exact trivial | exact ⟨rfl, rfl⟩ | exact rfl | (refine And.intro ?_ ?_))
 ·repeat' (first | exact trivial | exact ⟨rfl, rfl⟩ | exact rfl | (refine And.intro ?_ ?_))
 ·repeat' (first | exact trivial | exact ⟨rfl, rfl⟩ | exact rfl | (refine And.intro ?_ ?_))
 ·exact Le.refl _
 (repeat' ((conv => whnf); first | refine Ob.auto ?_ | (apply zB <;> intro hb <;> (try simp [-List.getD_eq_getElem?_getD] at hb) <;> try (exfalso; omega))))
 ((conv => whnf); refine qrx [1, 3, 4] (by repeat' (first | exact trivial | exact ⟨rfl, rfl⟩ | exact ⟨rfl, rfl, rfl⟩ | assumption | (refine And.intro ?_ ?_) | (intro _))) ?_)
 ((conv => whnf); refine qhe (fun _ => rfl) 300 [] (quk s hs) (by kernel_rfl) leA qa (by exact qb rfl) (by exact qjg ⟨fun _ _ => rfl, trivial⟩) (by kernel_rfl) ?_)
 (repeat' ((conv => whnf); first | refine Ob.auto ?_ | (apply zB <;> intro hb <;> (try simp [-List.getD_eq_getElem?_getD] at hb) <;> try (exfalso; omega))))
 ((conv => whnf); refine zQ 300 ?_)
 (repeat' ((conv => whnf); first | refine Ob.auto ?_ | fail))
 ((conv => whnf); refine CallY.trip [25, 9, 13, 18, 24] (hfo) (by kernel_rfl) leA qa (by exact qjg ⟨fun _ _ => rfl, trivial⟩) (by exact qjg ⟨fun _ _ => rfl, trivial⟩) ?_)
 (repeat' ((conv => whnf); first | refine zA ?_ | refine Ob.auto ?_ | refine Ob.intro ?_ ?_ | fail))
 ·refine ⟨⟨⟨trivial, ⟨rfl, rfl⟩, trivial⟩, ?_, ⟨trivial, ⟨rfl, rfl⟩, fun k hk => ⟨⟨hk, ⟨rfl, rfl⟩, trivial⟩, trivial⟩⟩, trivial, trivial⟩, trivial, trivial⟩
  exact trivial
 have hst : qdv m s ⟨0, P, E, 0⟩ = qab m s P ((qp m P).getD E ed0) := by
  show qez m s P ((qp m P).getD E ed0) = _
  unfold qez
  rw [qqc ha, hkp, if_neg (show ¬ (false = true ∧ _) from fun h => Bool.noConfusion h.1)]
 have hE : qab m { s with holder := -1 } P ((qp m P).getD E ed0) = qab m s P ((qp m P).getD E ed0) := by
  rw [qqc ha, qqc ha]
  simp only [qum]
 rw [hE, hst, qqc ha]
 refine ⟨Le.tup ⟨Le.agg ⟨Le.refl _, Le.refl _, Le.slcL rfl (fun j hj => ?_), Le.refl _, trivial⟩, Le.refl _, trivial⟩, ?_, trivial⟩
 ·exact LeL.refl _
 ·exact SoLe.refl _
end Go.Proofs.Ytdoaagphhjggbaa
end
section
namespace Go.Proofs.Ytdoaagphhjggbaa
open Go Go.Sx Go.RowKit Go.St Pa
set_option maxRecDepth 100000
set_option maxHeartbeats 4000000
section
variable {k n : Nat} (hk : k < 8) (hn : n < 100)
include hk hn
end
theorem trim8 (y : Int) : trim y 8 = if y % 256 ≥ 128 then y % 256 - 256 else y % 256 := by
 have h : (2 : Int) ^ wid 8 = 256 := by decide
 have h' : (2 : Int) ^ (wid 8 - 1) = 128 := by decide
 unfold trim
 rw [h, h']
end Go.Proofs.Ytdoaagphhjggbaa
end
