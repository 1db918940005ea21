/- Contracts: what an edge does that sends. -/
import Derived.Test.YtdoaagphhjggbaaQ36
import Derived.Test.YtdoaagphhjggbaaQ2
namespace Go.Proofs.Ytdoaagphhjggbaa
open Go Go.Sx Go.RowKit Go.St
set_option maxRecDepth 100000
set_option maxHeartbeats 4000000

def rowF (l : List (List Int)) : SO := .row [4] 23 1 0 l.length (fun k => [.own 4 k 1 (l.getD k []).length])
def famF (l : List (List Int)) : SO := .fam 3 1 l.length (fun _ => 1) (fun k => (l.getD k []).length) (fun k => encL (fun n => [iv n]) 0 (l.getD k []))

theorem jcu {L : List Int} {x : Int} {g : Nat → List AV} (hg : g 0 = [iv x]) {j : Nat} (hj : j < L.length + 1) : appF L.length (encL (fun n => [iv n]) 0 L) 1 g j = encL (fun n => [iv n]) 0 (L ++ [x]) j := by
 unfold appF encL
 rw [qjl]
 by_cases hl : j < L.length
 ·rw [if_pos hl, if_pos hl]
 ·obtain rfl : j = L.length := by omega
  rw [if_neg hl, if_neg hl, if_pos rfl, if_pos (by omega), Nat.sub_self, hg]

theorem joa (m : Md) (hM : ModOk m) (s : Stt) (hf : qy m s = true) (hh : s.holder = -1) (p : Nat) (hp : p < m.procs.length) (e : Ed) (he : EdOk m.tree.length m.vars.length m.chans.length (m.procs.getD p Pr.none).places e) (hc : canB m s p e = true) (h2 : e.act = 2) :
  Trip Try.prog 50 [m.av, .ptr 0 0, iv p, .agg e.cells] [boxS s, rowI s.at_, rowI s.vars, rowF s.chans, famF s.chans] (.tup [])
   [(0, .box 34 (qhr m s p e).cells)] 5 := by
 have hs := qem hM hf
 have h0 := ((qau m s).1 hf).1
 have hsv := qit m hM.ok p s hs e.expr
 have hex := he.ex
 have hvr := he.var
 have hch := he.chn
 have hto := he.to
 have hat : p < s.at_.length := by omega
 have hvl := h0.2.1
 have hcl := h0.2.2.1
 have hT := jcm hM hf (p := p) hto (jcn hc)
 have hTs := qem hM hT
 have hmv := jch m hM.ok (qcf m s p e) hT hTs p hp (pl := (m.procs.getD p Pr.none).places) (fun e he => (hM.pr _ (qp m.procs p Pr.none hp)).ed e he) (hM.psz _ (qp m.procs p Pr.none hp)).1
 have hA : ∀ j, (if j = p then [iv e.to] else encL (fun n => [iv n]) 0 s.at_ j) = encL (fun n => [iv n]) 0 (s.at_.set p e.to) j := qkb (fun n => [iv n]) 0 s.at_ p e.to hat
 unfold boxS rowI rowF famF
 refine qdk (T := tab Try.prog) (C := {}) 300 (fun _ => rfl) Try.func50 rfl (by kernel_rfl) (by kernel_rfl) (fun c0 rdb mpb => ?_)
 (repeat' ((conv => whnf); first | refine zA ?_ | refine zO ?_ | refine Ob.auto ?_ | (refine Ob.intro (by (exact ⟨by omega, by omega⟩)) ?_) | refine zD 300 ?_ | (apply zB <;> intro hb <;> (try simp [-List.getD_eq_getElem?_getD] at hb) <;> try (exfalso; omega)) | refine Ob.intro ?_ ?_))
 ((conv => whnf); refine qu (fun _ => rfl) (by kernel_rfl) 300 ?_)
 (repeat' ((conv => whnf); first | refine zA ?_ | refine zO ?_ | refine Ob.auto ?_ | refine zD 300 ?_ | (apply zB <;> intro hb <;> (try simp [-List.getD_eq_getElem?_getD] at hb) <;> try (exfalso; omega)) | refine Ob.intro ?_ ?_))
 ((conv => whnf); refine CallY.lend (hsv) (by repeat' (first | exact trivial | exact ⟨rfl, rfl⟩ | exact rfl | assumption | (refine And.intro ?_ ?_) | (intro _))) leA (by rfl) ?_)
 (repeat' ((conv => whnf); first | refine zA ?_ | refine zO ?_ | refine Ob.auto ?_ | refine zD 300 ?_ | (apply zB <;> intro hb <;> (try simp [-List.getD_eq_getElem?_getD] at hb) <;> try (exfalso; omega)) | refine Ob.intro ?_ ?_))
 ((conv => whnf); refine qbm (fun _ => rfl) (by kernel_rfl) 300 [.con (iv (trim (sval m p s e.expr).1 (m.chans.getD e.chn.toNat Ch.none).width))] (by kernel_rfl) ?_)
 (repeat' ((conv => whnf); first | refine zA ?_ | refine zO ?_ | refine Ob.auto ?_ | (refine Ob.intro (by (first | exact ⟨by omega, by omega⟩ | exact ⟨_, qbo (sval m p s e.expr).1 (m.chans.getD e.chn.toNat Ch.none).width, by rfl, LeL.refl _⟩)) ?_) | refine zD 300 ?_ | (apply zB <;> intro hb <;> (try simp [-List.getD_eq_getElem?_getD] at hb) <;> try (exfalso; omega)) | refine Ob.intro ?_ ?_))
 ·have hcl2 := hTs.l
  have hl := hs.l _ (qp s.chans e.chn.toNat [] (by omega))
  refine ⟨by omega, ⟨rfl, rfl⟩, by omega, ?_⟩
  dsimp only
  refine Nat.le_trans (Nat.mul_le_mul_right _ (?_ : _ ≤ 4000001)) (by decide +kernel); omega
 ·exact ⟨⟨⟨rfl, rfl⟩, by omega⟩, by omega, by simp [upd], by simp [upd]⟩
 have hTe : qcf m s p e = ⟨s.at_.set p e.to, s.vars, s.chans.set e.chn.toNat (s.chans.getD e.chn.toNat [] ++ [trim (sval m p s e.expr).1 (m.chans.getD e.chn.toNat Ch.none).width]), -1⟩ := by
  have h3 := hex (.inr (.inl h2))
  simp [qcf, h2, sval, h3, hf, if_neg (show ¬ e.expr < 0 by omega)]
 generalize hmsg : trim (sval m p s e.expr).1 (m.chans.getD e.chn.toNat Ch.none).width = msg at hTe ⊢
 have hlen : ∀ k, ((s.chans.set e.chn.toNat (s.chans.getD e.chn.toNat [] ++ [msg])).getD k []).length = if k = e.chn.toNat then (s.chans.getD e.chn.toNat []).length + 1 else (s.chans.getD k []).length := fun k => by
  rw [qmj]
  by_cases h : k = e.chn.toNat
  ·rw [if_pos ⟨h, by omega⟩, if_pos h]; simp
  ·rw [if_neg (fun h' => h h'.1), if_neg h]
 refine jcs 3 (.row [4] 23 1 0 s.chans.length (fun k => [.own 4 k 1 ((s.chans.set e.chn.toNat (s.chans.getD e.chn.toNat [] ++ [msg])).getD k []).length])) rfl ⟨⟨rfl, rfl, rfl⟩, rfl, rfl, fun k hk => ?_⟩ ?_
 ·show LeL (if k = e.chn.toNat then [AV.own 4 e.chn.toNat 1 ((s.chans.getD e.chn.toNat []).length + 1)] else [AV.own 4 k 1 (s.chans.getD k []).length]) _
  dsimp only
  rw [hlen]
  by_cases h : k = e.chn.toNat
  ·rw [if_pos h, if_pos h, h]; exact LeL.refl _
  ·rw [if_neg h, if_neg h]; exact LeL.refl _
 refine jcs 4 (.fam 3 1 s.chans.length (fun _ => 1) (fun k => ((s.chans.set e.chn.toNat (s.chans.getD e.chn.toNat [] ++ [msg])).getD k []).length) (fun k => encL (fun n => [iv n]) 0 ((s.chans.set e.chn.toNat (s.chans.getD e.chn.toNat [] ++ [msg])).getD k []))) rfl (qji (fun k hk => ?_) (fun k hk => ?_) (fun k j hk hj => ?_)) ?_
 ·show Go.Sx.upd _ _ _ k = 1
  unfold Go.Sx.upd
  split <;> rfl
 ·exact (hlen k).symm
 ·show (Go.Sx.upd (α := Nat → List AV) _ _ _ k) j = _
  unfold Go.Sx.upd
  rw [qmj]
  by_cases h : k = e.chn.toNat
  ·rw [if_pos h, if_pos ⟨h, by omega⟩]
   have hj2 : j < (if k = e.chn.toNat then (s.chans.getD e.chn.toNat []).length + 1 else (s.chans.getD k []).length) := hj
   rw [if_pos h] at hj2
   exact jcu rfl hj2
  ·rw [if_neg h, if_neg (fun h' => h h'.1)]
 ((conv => whnf); refine qdm [0, 5, 6] 0 rfl (by repeat' (first | exact trivial | exact ⟨rfl, rfl⟩ | exact ⟨rfl, rfl, rfl⟩ | assumption | (refine And.intro ?_ ?_) | (intro _))) ?_)
 refine qrt 0 (qcf m s p e).cells rfl (by
  rw [hTe]
  exact ⟨Le.slc (by simp) (fun j hj => hA j), Le.refl _, Le.slc (by simp) (fun j hj => rfl), Le.of_eq (congrArg (AV.int _) hh), trivial⟩) ?_
 (repeat' ((conv => whnf); first | refine zA ?_ | refine zO ?_ | refine Ob.auto ?_ | refine zC 300 (hmv) ?_ | refine zG 300 (fun hg => hmv) ?_ | (refine CallY.con (hmv) (by rfl) leA ?_) | (refine CallZ.con (fun hg => hmv) qe (by rfl) ?_) | refine zE 300 (hmv) ?_ | refine zF 300 (fun hg => hmv) ?_ | refine zD 300 ?_ | (refine qu (fun _ => rfl) (by kernel_rfl) 300 ?_) | (apply zB <;> intro hb <;> (try simp [-List.getD_eq_getElem?_getD] at hb) <;> try (exfalso; omega)) | refine Ob.intro ?_ ?_))
 (repeat' ((conv => whnf); first | refine zA ?_ | refine zO ?_ | refine Ob.auto ?_ | refine zD 300 ?_ | (apply zB <;> intro hb <;> (try simp [-List.getD_eq_getElem?_getD] at hb) <;> try (exfalso; omega)) | refine Ob.intro ?_ ?_))
 ·exact ⟨Le.refl _, ⟨rfl, Le.refl _, Le.refl _, Le.refl _, Le.of_eq (congrArg (AV.int _) (if_pos hb).symm), trivial⟩, trivial⟩
 ·refine ⟨Le.refl _, ⟨rfl, Le.refl _, Le.refl _, Le.refl _, Le.of_eq (congrArg (AV.int _) ?_), trivial⟩, trivial⟩
  refine Eq.trans (by rw [hTe]) (if_neg (fun h => ?_)).symm
  have := hb h.1; rw [h.2] at this; cases this

end Go.Proofs.Ytdoaagphhjggbaa
