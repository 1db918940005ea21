/- Some texts of the library, one behind the other. -/
import Derived.Test.YtdoaagphhjggbaaGreatDoorQMk3
import Derived.Test.YtdoaagphhjggbaaGreatDoorQMkQ
import Derived.Test.YtdoaagphhjggbaaGreatDoorQ2
section
namespace Go.Proofs.YtdoaagphhjggbaaGreatDoor
open List renaming getD_eq_getElem?_getD → zd
open Go Go.Sx Go.RowKit Go.St
set_option maxRecDepth 100000
set_option maxHeartbeats 4000000
def mdO (m : Md) (nv np : Nat) : AV := .agg [ji m.tree, iv m.globals, slcL Ch.cells ch0 5 m.chans, .own 0 0 0 nv, .own 1 0 0 np, ints m.safe, .bool m.dead]
section
variable (m : Md) (nv : Nat) (fv : Nat → List AV) (np : Nat) (fp : Nat → List AV)
theorem qzf (st : Pr → Int → Int → Int → Pr) (node : Int)
  (pre : List Int → Pr → Int → Int → Prop) (hsz : ∀ ks p frm to, pre ks p frm to → (p.edges.length ≤ 50000 ∧ 0 ≤ p.places ∧ p.places ≤ 50000 ∧ p.rest.length ≤ 50000) ∧ ks.length ≤ 800)
  (h1 : ∀ k p frm to, pre [k] p frm to → qgi 49 [mdO m nv np, prV p, iv k, iv frm, iv to] [vrSO nv fv, pcSO np fp] (st p k frm to))
  (h2 : ∀ k k' ks p frm to, pre (k :: k' :: ks) p frm to → qgi 49 [mdO m nv np, prV (qe p), iv k, iv frm, iv p.places] [vrSO nv fv, pcSO np fp] (st (qe p) k frm p.places) ∧ pre (k' :: ks) (st (qe p) k frm p.places) p.places to) :
  ∀ (ks : List Int) (p : Pr) (frm to : Int), pre ks p frm to → qgi 28 [mdO m nv np, prV p, ints ks, iv node, iv frm, iv to] [vrSO nv fv, pcSO np fp] (qar st node p ks frm to) := by
 intro ks
 induction ks with
 | nil =>
  intro p frm to hp
  have hs := hsz _ _ _ _ hp
  refine qch (T := tab Tryz.prog) (C := {}) 5 300 (fun _ => rfl) Tryz.func28 rfl (by kernel_rfl) (by kernel_rfl) (fun c0 rdb mpb => ?_)
  (repeat' ((conv => whnf); first | (apply zB <;> intro hb <;> (try simp [-zd] at hb) <;> try (exfalso; omega))))
  ·((conv => whnf); refine zT 300 [] (qbx p (by omega) frm to 0 node (-1) (-1) (-1)) qa ?_)
   (repeat' ((conv => whnf); first | refine Ob.auto ?_ | fail))
   (refine ⟨⟨Le.refl _, qa⟩, qcg rfl (SoLe.refl _)⟩)
 | cons k ks ih =>
  intro p frm to hp
  have hs := hsz _ _ _ _ hp
  cases ks with
  | nil =>
   refine qch (T := tab Tryz.prog) (C := {}) 5 300 (fun _ => rfl) Tryz.func28 rfl (by kernel_rfl) (by kernel_rfl) (fun c0 rdb mpb => ?_)
   (repeat' ((conv => whnf); first | refine Ob.auto ?_ | (refine zQ 300 ?_) | (apply zB <;> intro hb <;> (try simp [-zd] at hb) <;> try (exfalso; omega))))
   ((conv => whnf); refine CallY.trip [0, 1] (h1 k p frm to hp) (by kernel_rfl) leA qa (by exact qb rfl) (by exact qb rfl) ?_)
   (repeat' ((conv => whnf); first | refine zA ?_ | refine Ob.auto ?_ | fail))
   (refine ⟨⟨Le.refl _, qa⟩, qcg rfl (SoLe.refl _)⟩)
  | cons k' ks =>
   obtain ⟨h3, h4⟩ := h2 k k' ks p frm to hp
   refine qch (T := tab Tryz.prog) (C := {}) 5 300 (fun _ => rfl) Tryz.func28 rfl (by kernel_rfl) (by kernel_rfl) (fun c0 rdb mpb => ?_)
   (repeat' ((conv => whnf); first | (refine Ob.intro (by (exact ⟨by omega, by first | omega | (simp; omega)⟩)) ?_) | refine zC 300 (qig p (by omega) (by omega)) ?_ | (refine zQ 300 ?_) | (apply zB <;> intro hb <;> (try simp [-zd] at hb) <;> try (exfalso; omega))))
   ((conv => whnf); refine CallY.trip [0, 1] (h3) (by kernel_rfl) leA qa (by exact qb rfl) (by exact qb rfl) ?_)
   (repeat' ((conv => whnf); first | refine Ob.auto ?_ | fail))
   ((conv => whnf); refine AltG.none (by kernel_rfl) (EndG.go ?_))
   ((conv => whnf); refine qeg [0, 1, 2, 3, 4] 3 rfl frzA ?_)
   (repeat' ((conv => whnf); first | (refine Ob.intro (by (exact ⟨by omega, by first | omega | (simp; omega)⟩)) ?_) | (refine zQ 300 ?_) | fail))
   ((conv => whnf); refine CallY.trip [0, 1] (ih (st (qe p) k frm p.places) p.places to h4) (by kernel_rfl) ⟨Le.refl _, Le.refl _, Le.slc (by simp) (fun i hi => by rw [show Int.toNat 1 = 1 from rfl, Nat.add_comm]; rfl), Le.refl _, Le.refl _, Le.refl _, trivial⟩ qa (by exact qb rfl) (by exact qb rfl) ?_)
   (repeat' ((conv => whnf); first | refine zA ?_ | refine Ob.auto ?_ | fail))
   (refine ⟨⟨Le.refl _, qa⟩, qcg rfl (SoLe.refl _)⟩)
end
end Go.Proofs.YtdoaagphhjggbaaGreatDoor
end
section
namespace Go.Proofs.YtdoaagphhjggbaaGreatDoor
open Go Go.Sx Go.RowKit Go.St
set_option maxRecDepth 100000
set_option maxHeartbeats 8000000
section
variable (m : Md) (nv : Nat) (fv : Nat → List AV) (np : Nat) (fp : Nat → List AV) (p : Pr) (a frm to : Int) (h0 : 0 ≤ a) (h1 : a < m.tree.length)
abbrev qel (m : Md) (nv : Nat) (fv : Nat → List AV) (np : Nat) (fp : Nat → List AV) (p : Pr) (a frm to : Int) (q : Pr) : Prop := qgi 49 [mdO m nv np, prV p, iv a, iv frm, iv to] [vrSO nv fv, pcSO np fp] q
abbrev qii (m : Md) (nv : Nat) (fv : Nat → List AV) (np : Nat) (fp : Nat → List AV) (p : Pr) (a frm to : Int) (q : Pr) : Prop := qgi 84 [mdO m nv np, prV p, iv a, iv frm, iv to] [vrSO nv fv, pcSO np fp] q
include h0 h1 in
theorem stat6_trip (hk : (m.tree.getD a.toNat nd0).kind = 6) (hk1 : (m.tree.getD a.toNat nd0).kids.length = 1) (hw1 : (m.tree.getD a.toNat nd0).words.length = 1) (hE : p.edges.length ≤ 50000) (hn : p.names.length = p.vars.length ∧ p.names.length ≤ 100000)
  (hf : 0 ≤ qbp p.names ((m.tree.getD a.toNat nd0).words.getD 0 []) ∧ qbp p.names ((m.tree.getD a.toNat nd0).words.getD 0 []) < p.names.length) :
  qel m nv fv np fp p a frm to (putF p frm to 1 a ((m.tree.getD a.toNat nd0).kids.getD 0 0) (p.vars.getD (qbp p.names ((m.tree.getD a.toNat nd0).words.getD 0 [])).toNat 0) (-1)) := by
 refine qch (T := tab Tryz.prog) (C := {}) 5 1500 (fun _ => rfl) Tryz.func49 rfl (by kernel_rfl) (by kernel_rfl) (fun c0 rdb mpb => ?_)
 (repeat' ((conv => whnf); first | refine Ob.auto ?_ | (refine CallY.con (qyy p.names (by omega) ((m.tree.getD a.toNat nd0).words.getD 0 [])) (by rfl) leA ?_) | (refine zQ 1500 ?_) | (apply zB <;> intro hb <;> (try simp [-List.getD_eq_getElem?_getD] at hb) <;> try (exfalso; omega))))
 ((conv => whnf); refine CallY.trip [] (qbx p (by omega) frm to 1 a ((m.tree.getD a.toNat nd0).kids.getD 0 0) (p.vars.getD (qbp p.names ((m.tree.getD a.toNat nd0).words.getD 0 [])).toNat 0) (-1)) (by kernel_rfl) leA qa (by exact qb rfl) (by exact qb rfl) ?_)
 (repeat' ((conv => whnf); first | refine zA ?_ | refine Ob.auto ?_ | fail))
 (refine ⟨⟨Le.refl _, qa⟩, qcg rfl (SoLe.refl _)⟩)
include h0 h1 in
theorem stat7_trip (hk : (m.tree.getD a.toNat nd0).kind = 7) (hk1 : (m.tree.getD a.toNat nd0).kids.length = 1) (hw1 : (m.tree.getD a.toNat nd0).words.length = 1) (hE : p.edges.length ≤ 50000) (hC : m.chans.length ≤ 1000000) :
  qel m nv fv np fp p a frm to (putF p frm to 2 a ((m.tree.getD a.toNat nd0).kids.getD 0 0) (-1) (qds m.chans ((m.tree.getD a.toNat nd0).words.getD 0 []))) := by
 refine qch (T := tab Tryz.prog) (C := {}) 5 1500 (fun _ => rfl) Tryz.func49 rfl (by kernel_rfl) (by kernel_rfl) (fun c0 rdb mpb => ?_)
 (repeat' ((conv => whnf); first | refine Ob.auto ?_ | (refine zQ 1500 ?_) | (apply zB <;> intro hb <;> (try simp [-List.getD_eq_getElem?_getD] at hb) <;> try (exfalso; omega))))
 ((conv => whnf); refine CallY.lend (qyz m nv fv np fp hC ((m.tree.getD a.toNat nd0).words.getD 0 [])) (by repeat' (first | exact trivial | exact ⟨rfl, rfl⟩ | exact rfl | assumption | (refine And.intro ?_ ?_) | (intro _))) leA (by rfl) ?_)
 ((conv => whnf); refine CallY.trip [] (qbx p (by omega) frm to 2 a ((m.tree.getD a.toNat nd0).kids.getD 0 0) (-1) (qds m.chans ((m.tree.getD a.toNat nd0).words.getD 0 []))) (by kernel_rfl) leA qa (by exact qb rfl) (by exact qb rfl) ?_)
 (repeat' ((conv => whnf); first | refine Ob.auto ?_ | fail))
 ((conv => whnf); refine AltG.same 14 (by kernel_rfl) (by repeat' (first | exact trivial | exact fun h => Bool.noConfusion h | exact fun _ => ⟨rfl, rfl⟩ | (refine And.intro ?_ ?_))) (EndG.go ?_))
 (repeat' ((conv => whnf); first | refine Ob.auto ?_ | fail))
 (refine ⟨⟨Le.refl _, qa⟩, qcg rfl (SoLe.refl _)⟩)
end
end Go.Proofs.YtdoaagphhjggbaaGreatDoor
end
section
namespace Go.Proofs.YtdoaagphhjggbaaGreatDoor
open List renaming getD_eq_getElem?_getD → zd
open Go Go.Sx Go.RowKit Go.St
set_option maxRecDepth 100000
set_option maxHeartbeats 8000000
section
variable (m : Md) (nv : Nat) (fv : Nat → List AV) (np : Nat) (fp : Nat → List AV) (p : Pr) (a frm to : Int) (h0 : 0 ≤ a) (h1 : a < m.tree.length)
include h0 h1 in
theorem stat8_trip (hk : (m.tree.getD a.toNat nd0).kind = 8) (hn1 : (m.tree.getD a.toNat nd0).nums.length = 1) (hw2 : (m.tree.getD a.toNat nd0).words.length = 2) (hE : p.edges.length ≤ 50000) (hC : m.chans.length ≤ 1000000) (hn : p.names.length = p.vars.length ∧ p.names.length ≤ 100000)
  (hf : 0 ≤ qbp p.names ((m.tree.getD a.toNat nd0).words.getD 1 []) ∧ qbp p.names ((m.tree.getD a.toNat nd0).words.getD 1 []) < p.names.length) (hF : 0 ≤ frm ∧ frm < p.rest.length) (hR : p.rest.length ≤ 100000) :
  qel m nv fv np fp p a frm to (putF (jn p frm ((m.tree.getD a.toNat nd0).nums.getD 0 0)) frm to 3 a (-1) (p.vars.getD (qbp p.names ((m.tree.getD a.toNat nd0).words.getD 1 [])).toNat 0) (qds m.chans ((m.tree.getD a.toNat nd0).words.getD 0 []))) := by
 have hE2 : (jn p frm ((m.tree.getD a.toNat nd0).nums.getD 0 0)).edges.length ≤ 100000 := by show p.edges.length ≤ 100000; omega
 have e1 : (jn p frm ((m.tree.getD a.toNat nd0).nums.getD 0 0)).vars.length = p.vars.length := rfl
 refine qch (T := tab Tryz.prog) (C := {}) 5 1500 (fun _ => rfl) Tryz.func49 rfl (by kernel_rfl) (by kernel_rfl) (fun c0 rdb mpb => ?_)
 (repeat' ((conv => whnf); first | refine zA ?_ | refine Ob.auto ?_ | (refine CallY.con (qyy p.names (by omega) ((m.tree.getD a.toNat nd0).words.getD 1 [])) (by rfl) leA ?_) | (refine CallY.con (qsl p frm ((m.tree.getD a.toNat nd0).nums.getD 0 0) hF hR) (by rfl) leA ?_) | (refine zQ 1500 ?_) | (apply zB <;> intro hb <;> (try simp [-zd] at hb) <;> try (exfalso; omega))))
 ((conv => whnf); refine CallY.lend (qyz m nv fv np fp hC ((m.tree.getD a.toNat nd0).words.getD 0 [])) (by repeat' (first | exact trivial | exact ⟨rfl, rfl⟩ | exact rfl | assumption | (refine And.intro ?_ ?_) | (intro _))) leA (by rfl) ?_)
 ((conv => whnf); refine CallY.trip [] (qbx (jn p frm ((m.tree.getD a.toNat nd0).nums.getD 0 0)) hE2 frm to 3 a (-1) (p.vars.getD (qbp p.names ((m.tree.getD a.toNat nd0).words.getD 1 [])).toNat 0) (qds m.chans ((m.tree.getD a.toNat nd0).words.getD 0 []))) (by kernel_rfl) leA qa (by exact qb rfl) (by exact qb rfl) ?_)
 (repeat' ((conv => whnf); first | refine Ob.auto ?_ | fail))
 ((conv => whnf); refine AltG.same 21 (by kernel_rfl) (by repeat' (first | exact trivial | exact fun h => Bool.noConfusion h | exact fun _ => ⟨rfl, rfl⟩ | (refine And.intro ?_ ?_))) (EndG.go ?_))
 (repeat' ((conv => whnf); first | refine Ob.auto ?_ | fail))
 (refine ⟨⟨Le.refl _, qa⟩, qcg rfl (SoLe.refl _)⟩)
include h0 h1 in
theorem stat9_trip (hk : (m.tree.getD a.toNat nd0).kind = 9) (hk1 : (m.tree.getD a.toNat nd0).kids.length = 1) (hn1 : (m.tree.getD a.toNat nd0).nums.length = 1) (hE : p.edges.length ≤ 50000) (hF : 0 ≤ frm ∧ frm < p.rest.length) (hR : p.rest.length ≤ 100000) :
  qel m nv fv np fp p a frm to (putF (jn p frm ((m.tree.getD a.toNat nd0).nums.getD 0 0)) frm to 4 a ((m.tree.getD a.toNat nd0).kids.getD 0 0) (-1) (-1)) := by
 have hE2 : (jn p frm ((m.tree.getD a.toNat nd0).nums.getD 0 0)).edges.length ≤ 100000 := by show p.edges.length ≤ 100000; omega
 refine qch (T := tab Tryz.prog) (C := {}) 5 1500 (fun _ => rfl) Tryz.func49 rfl (by kernel_rfl) (by kernel_rfl) (fun c0 rdb mpb => ?_)
 (repeat' ((conv => whnf); first | refine zA ?_ | refine Ob.auto ?_ | (refine CallY.con (qsl p frm ((m.tree.getD a.toNat nd0).nums.getD 0 0) hF hR) (by rfl) leA ?_) | (refine zQ 1500 ?_) | (apply zB <;> intro hb <;> (try simp [-zd] at hb) <;> try (exfalso; omega))))
 ((conv => whnf); refine CallY.trip [] (qbx (jn p frm ((m.tree.getD a.toNat nd0).nums.getD 0 0)) hE2 frm to 4 a ((m.tree.getD a.toNat nd0).kids.getD 0 0) (-1) (-1)) (by kernel_rfl) leA qa (by exact qb rfl) (by exact qb rfl) ?_)
 (repeat' ((conv => whnf); first | refine zA ?_ | refine Ob.auto ?_ | fail))
 (refine ⟨⟨Le.refl _, qa⟩, qcg rfl (SoLe.refl _)⟩)
include h0 h1 in
theorem stat15_trip (hk : (m.tree.getD a.toNat nd0).kind = 15) (hE : p.edges.length ≤ 50000) : qel m nv fv np fp p a frm to (putF p frm 1 0 a (-1) (-1) (-1)) := by
 refine qch (T := tab Tryz.prog) (C := {}) 5 1500 (fun _ => rfl) Tryz.func49 rfl (by kernel_rfl) (by kernel_rfl) (fun c0 rdb mpb => ?_)
 (repeat' ((conv => whnf); first | refine Ob.auto ?_ | (apply zB <;> intro hb <;> (try simp [-zd] at hb) <;> try (exfalso; omega))))
 (first | ((conv => whnf); refine zT 1500 [] (qbx p (by omega) frm 1 0 a (-1) (-1) (-1)) qa ?_) | ((conv => whnf); refine CallY.trip [] (qbx p (by omega) frm 1 0 a (-1) (-1) (-1)) (by kernel_rfl) leA qa (by exact qb rfl) (by exact qb rfl) ?_))
 (repeat' ((conv => whnf); first | refine Ob.auto ?_ | fail))
 (refine ⟨⟨Le.refl _, qa⟩, qcg rfl (SoLe.refl _)⟩)
include h0 h1 in
theorem stat14_trip (hk : (m.tree.getD a.toNat nd0).kind = 14) (hE : p.edges.length ≤ 50000) : qel m nv fv np fp p a frm to (putF p frm to 0 a (-1) (-1) (-1)) := by
 refine qch (T := tab Tryz.prog) (C := {}) 5 1500 (fun _ => rfl) Tryz.func49 rfl (by kernel_rfl) (by kernel_rfl) (fun c0 rdb mpb => ?_)
 (repeat' ((conv => whnf); first | refine Ob.auto ?_ | (apply zB <;> intro hb <;> (try simp [-zd] at hb) <;> try (exfalso; omega))))
 (first | ((conv => whnf); refine zT 1500 [] (qbx p (by omega) frm to 0 a (-1) (-1) (-1)) qa ?_) | ((conv => whnf); refine CallY.trip [] (qbx p (by omega) frm to 0 a (-1) (-1) (-1)) (by kernel_rfl) leA qa (by exact qb rfl) (by exact qb rfl) ?_))
 (repeat' ((conv => whnf); first | refine Ob.auto ?_ | fail))
 (refine ⟨⟨Le.refl _, qa⟩, qcg rfl (SoLe.refl _)⟩)
end
end Go.Proofs.YtdoaagphhjggbaaGreatDoor
end
