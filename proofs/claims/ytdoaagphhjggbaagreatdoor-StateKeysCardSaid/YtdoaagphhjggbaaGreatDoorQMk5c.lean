/- Contracts: automata by the document's answer: statements, kind by kind: branches. -/
import Derived.Test.YtdoaagphhjggbaaGreatDoorQ14
import Derived.Test.YtdoaagphhjggbaaGreatDoorQ2
namespace Go.Proofs.YtdoaagphhjggbaaGreatDoor
open List renaming getD_eq_getElem?_getD → zd
open Go Go.Sx Go.RowKit Go.St
set_option maxRecDepth 100000
set_option maxHeartbeats 8000000
section
variable (m : Md) (nv : Nat) (fv : Nat → List AV) (np : Nat) (fp : Nat → List AV) (p : Pr) (a frm to : Int) (h0 : 0 ≤ a) (h1 : a < m.tree.length)
include h0 h1 in
theorem stat12_trip (q : Pr) (hk : (m.tree.getD a.toNat nd0).kind = 12) (hk1 : (m.tree.getD a.toNat nd0).kids.length = 2) (hE : p.edges.length ≤ 50000) (hP : 0 ≤ p.places ∧ p.places ≤ 100000) (hR : p.rest.length ≤ 100000)
  (B : qii m nv fv np fp (putF (putF (qe p) frm p.places 4 a ((m.tree.getD a.toNat nd0).kids.getD 0 0) (-1) (-1)) frm to 5 a ((m.tree.getD a.toNat nd0).kids.getD 0 0) (-1) (-1)) ((m.tree.getD a.toNat nd0).kids.getD 1 0) p.places frm q) : qel m nv fv np fp p a frm to q := by
 have hE1 : (qe p).edges.length ≤ 100000 := by show p.edges.length ≤ 100000; omega
 have hE2 : (putF (qe p) frm p.places 4 a ((m.tree.getD a.toNat nd0).kids.getD 0 0) (-1) (-1)).edges.length ≤ 100000 := by simp [putF, qe]; omega
 refine qch (T := tab Tryz.prog) (C := {}) 5 1500 (fun _ => rfl) Tryz.func49 rfl (by kernel_rfl) (by kernel_rfl) (fun c0 rdb mpb => ?_)
 (repeat' ((conv => whnf); first | refine Ob.auto ?_ | refine zC 1500 (qig p hP hR) ?_ | (refine zQ 1500 ?_) | (apply zB <;> intro hb <;> (try simp [-zd] at hb) <;> try (exfalso; omega))))
 ((conv => whnf); refine CallY.trip [] (qbx (qe p) hE1 frm p.places 4 a ((m.tree.getD a.toNat nd0).kids.getD 0 0) (-1) (-1)) (by kernel_rfl) leA qa (by exact qb rfl) (by exact qb rfl) ?_)
 (repeat' ((conv => whnf); first | refine Ob.auto ?_ | fail))
 ((conv => whnf); refine AltG.none (by kernel_rfl) (EndG.go ?_))
 ((conv => whnf); refine qeg [0, 1, 2, 3, 4, 5, 6] 6 rfl frzA ?_)
 (repeat' ((conv => whnf); first | refine Ob.auto ?_ | (refine zQ 1500 ?_) | fail))
 ((conv => whnf); refine CallY.trip [] (qbx _ hE2 frm to 5 a ((m.tree.getD a.toNat nd0).kids.getD 0 0) (-1) (-1)) (by kernel_rfl) leA qa (by exact qb rfl) (by exact qb rfl) ?_)
 (repeat' ((conv => whnf); first | refine Ob.auto ?_ | fail))
 ((conv => whnf); refine AltG.none (by kernel_rfl) (EndG.go ?_))
 ((conv => whnf); refine qeg [0, 1, 2, 3, 4, 5, 6] 6 rfl frzA ?_)
 (repeat' ((conv => whnf); first | refine Ob.auto ?_ | (refine zQ 1500 ?_) | fail))
 ((conv => whnf); refine CallY.trip [0, 1] (B) (by kernel_rfl) leA qa (by exact qb rfl) (by exact qb rfl) ?_)
 (repeat' ((conv => whnf); first | refine zA ?_ | refine Ob.auto ?_ | fail))
 (refine ⟨⟨Le.refl _, qa⟩, qcg rfl (SoLe.refl _)⟩)
include h0 h1 in
theorem stat11_trip (q1 q : Pr) (hk : (m.tree.getD a.toNat nd0).kind = 11) (hk1 : (m.tree.getD a.toNat nd0).kids.length = 2) (hE : p.edges.length ≤ 50000) (hP : 0 ≤ p.places ∧ p.places ≤ 100000) (hR : p.rest.length ≤ 100000)
  (B : qii m nv fv np fp (putF (qe p) frm p.places 4 a ((m.tree.getD a.toNat nd0).kids.getD 0 0) (-1) (-1)) ((m.tree.getD a.toNat nd0).kids.getD 1 0) p.places to q1) (hE1 : q1.edges.length ≤ 100000) :
  qel m nv fv np fp p a frm to (putF q1 frm to 5 a ((m.tree.getD a.toNat nd0).kids.getD 0 0) (-1) (-1)) := by
 have hE2 : (qe p).edges.length ≤ 100000 := by show p.edges.length ≤ 100000; omega
 refine qch (T := tab Tryz.prog) (C := {}) 5 1500 (fun _ => rfl) Tryz.func49 rfl (by kernel_rfl) (by kernel_rfl) (fun c0 rdb mpb => ?_)
 (repeat' ((conv => whnf); first | refine Ob.auto ?_ | refine zC 1500 (qig p hP hR) ?_ | (refine zQ 1500 ?_) | (apply zB <;> intro hb <;> (try simp [-zd] at hb) <;> try (exfalso; omega))))
 ((conv => whnf); refine CallY.trip [] (qbx (qe p) hE2 frm p.places 4 a ((m.tree.getD a.toNat nd0).kids.getD 0 0) (-1) (-1)) (by kernel_rfl) leA qa (by exact qb rfl) (by exact qb rfl) ?_)
 (repeat' ((conv => whnf); first | refine Ob.auto ?_ | fail))
 ((conv => whnf); refine AltG.none (by kernel_rfl) (EndG.go ?_))
 ((conv => whnf); refine qeg [0, 1, 2, 3, 4, 5, 6] 6 rfl frzA ?_)
 (repeat' ((conv => whnf); first | refine Ob.auto ?_ | (refine zQ 1500 ?_) | fail))
 ((conv => whnf); refine CallY.trip [0, 1] (B) (by kernel_rfl) leA qa (by exact qb rfl) (by exact qb rfl) ?_)
 (repeat' ((conv => whnf); first | refine Ob.auto ?_ | fail))
 ((conv => whnf); refine AltG.none (by kernel_rfl) (EndG.go ?_))
 (repeat' ((conv => whnf); first | (apply zB <;> intro hb <;> (try simp [-zd] at hb) <;> try (exfalso; omega))))
 all_goals first
  | (exfalso; omega)
  | skip
 ((conv => whnf); refine qeg [0, 1, 2, 3, 4, 5, 6] 6 rfl frzA ?_)
 (repeat' ((conv => whnf); first | refine Ob.auto ?_ | (refine zQ 1500 ?_) | fail))
 ((conv => whnf); refine CallY.trip [] (qbx _ hE1 frm to 5 a ((m.tree.getD a.toNat nd0).kids.getD 0 0) (-1) (-1)) (by kernel_rfl) leA qa (by exact qb rfl) (by exact qb rfl) ?_)
 (repeat' ((conv => whnf); first | refine zA ?_ | refine Ob.auto ?_ | fail))
 (refine ⟨⟨Le.refl _, qa⟩, qcg rfl (SoLe.refl _)⟩)
include h0 h1 in
theorem stat11b_trip (q1 q : Pr) (hk : (m.tree.getD a.toNat nd0).kind = 11) (hk1 : (m.tree.getD a.toNat nd0).kids.length = 3) (hE : p.edges.length ≤ 50000) (hP : 0 ≤ p.places ∧ p.places ≤ 100000) (hR : p.rest.length ≤ 100000)
  (B : qii m nv fv np fp (putF (qe p) frm p.places 4 a ((m.tree.getD a.toNat nd0).kids.getD 0 0) (-1) (-1)) ((m.tree.getD a.toNat nd0).kids.getD 1 0) p.places to q1) (hE1 : q1.edges.length ≤ 100000) (hP1 : 0 ≤ q1.places ∧ q1.places ≤ 100000) (hR1 : q1.rest.length ≤ 100000)
  (B2 : qii m nv fv np fp (putF (qe q1) frm q1.places 5 a ((m.tree.getD a.toNat nd0).kids.getD 0 0) (-1) (-1)) ((m.tree.getD a.toNat nd0).kids.getD 2 0) q1.places to q) :
  qel m nv fv np fp p a frm to q := by
 have hE2 : (qe p).edges.length ≤ 100000 := by show p.edges.length ≤ 100000; omega
 have hE3 : (qe q1).edges.length ≤ 100000 := hE1
 refine qch (T := tab Tryz.prog) (C := {}) 5 1500 (fun _ => rfl) Tryz.func49 rfl (by kernel_rfl) (by kernel_rfl) (fun c0 rdb mpb => ?_)
 (repeat' ((conv => whnf); first | refine Ob.auto ?_ | refine zC 1500 (qig p hP hR) ?_ | (refine zQ 1500 ?_) | (apply zB <;> intro hb <;> (try simp [-zd] at hb) <;> try (exfalso; omega))))
 ((conv => whnf); refine CallY.trip [] (qbx (qe p) hE2 frm p.places 4 a ((m.tree.getD a.toNat nd0).kids.getD 0 0) (-1) (-1)) (by kernel_rfl) leA qa (by exact qb rfl) (by exact qb rfl) ?_)
 (repeat' ((conv => whnf); first | refine Ob.auto ?_ | fail))
 ((conv => whnf); refine AltG.none (by kernel_rfl) (EndG.go ?_))
 ((conv => whnf); refine qeg [0, 1, 2, 3, 4, 5, 6] 6 rfl frzA ?_)
 (repeat' ((conv => whnf); first | refine Ob.auto ?_ | (refine zQ 1500 ?_) | fail))
 ((conv => whnf); refine CallY.trip [0, 1] (B) (by kernel_rfl) leA qa (by exact qb rfl) (by exact qb rfl) ?_)
 (repeat' ((conv => whnf); first | refine Ob.auto ?_ | fail))
 ((conv => whnf); refine AltG.none (by kernel_rfl) (EndG.go ?_))
 (repeat' ((conv => whnf); first | (apply zB <;> intro hb <;> (try simp [-zd] at hb) <;> try (exfalso; omega))))
 all_goals first
  | (exfalso; omega)
  | skip
 ((conv => whnf); refine qxe [0, 1, 2, 3, 4, 5, 6] frzA ?_)
 ((conv => whnf); refine qee (fun _ => rfl) 1500 (qig q1 hP1 hR1) (by rfl) leA (by kernel_rfl) ?_)
 (repeat' ((conv => whnf); first | refine Ob.auto ?_ | (refine zQ 1500 ?_) | fail))
 ((conv => whnf); refine CallY.trip [] (qbx (qe q1) hE3 frm q1.places 5 a ((m.tree.getD a.toNat nd0).kids.getD 0 0) (-1) (-1)) (by kernel_rfl) leA qa (by exact qb rfl) (by exact qb rfl) ?_)
 (repeat' ((conv => whnf); first | refine Ob.auto ?_ | fail))
 ((conv => whnf); refine AltG.none (by kernel_rfl) (EndG.go ?_))
 ((conv => whnf); refine qeg [0, 1, 2, 3, 4, 5, 6] 6 rfl frzA ?_)
 (repeat' ((conv => whnf); first | refine Ob.auto ?_ | (refine zQ 1500 ?_) | fail))
 ((conv => whnf); refine CallY.trip [0, 1] (B2) (by kernel_rfl) leA qa (by exact qb rfl) (by exact qb rfl) ?_)
 (repeat' ((conv => whnf); first | refine zA ?_ | refine Ob.auto ?_ | fail))
 (refine ⟨⟨Le.refl _, qa⟩, qcg rfl (SoLe.refl _)⟩)
end
end Go.Proofs.YtdoaagphhjggbaaGreatDoor
