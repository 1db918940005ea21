/- Some texts of the library, one behind the other. -/
import Derived.Test.YtdoaagphhjggbaaGreatQ24
import Derived.Test.YtdoaagphhjggbaaGreatQMkQ
import Derived.Test.YtdoaagphhjggbaaGreatQ2
section
/- Contracts: automata by the document's answer: statements. -/
namespace Go.Proofs.YtdoaagphhjggbaaGreat
open List renaming getD_eq_getElem?_getD → zd
open Go Go.Sx Go.RowKit Go.St
set_option maxRecDepth 100000
set_option maxHeartbeats 4000000
def mdO (m : Md) (nv np : Nat) : AV := .agg [jt m.tree, iv m.globals, slcL Ch.cells Ch.none 5 m.chans, .own 0 0 0 nv, .own 1 0 0 np, ints m.safe, .bool m.dead]
section
variable (m : Md) (nv : Nat) (fv : Nat → List AV) (np : Nat) (fp : Nat → List AV)
theorem jdj (st : Pr → Int → Int → Int → Pr) (node : Int)
  (pre : List Int → Pr → Int → Int → Prop) (hsz : ∀ ks p frm to, pre ks p frm to → (p.edges.length ≤ 50000 ∧ 0 ≤ p.places ∧ p.places ≤ 50000 ∧ p.rest.length ≤ 50000) ∧ ks.length ≤ 800)
  (h1 : ∀ k p frm to, pre [k] p frm to → qik 100 [mdO m nv np, prV p, iv k, iv frm, iv to] [vrSO nv fv, pcSO np fp] (st p k frm to))
  (h2 : ∀ k k' ks p frm to, pre (k :: k' :: ks) p frm to → qik 100 [mdO m nv np, prV (qh p), iv k, iv frm, iv p.places] [vrSO nv fv, pcSO np fp] (st (qh p) k frm p.places) ∧ pre (k' :: ks) (st (qh p) k frm p.places) p.places to) :
  ∀ (ks : List Int) (p : Pr) (frm to : Int), pre ks p frm to → qik 69 [mdO m nv np, prV p, ints ks, iv node, iv frm, iv to] [vrSO nv fv, pcSO np fp] (qbf st node p ks frm to) := by
 intro ks
 induction ks with
 | nil =>
  intro p frm to hp
  have hs := hsz _ _ _ _ hp
  refine qdg (T := tab Tryz.prog) (C := {}) 5 300 (fun _ => rfl) Tryz.func69 rfl (by kernel_rfl) (by kernel_rfl) (fun c0 rdb mpb => ?_)
  (repeat' ((conv => whnf); first | refine zA ?_ | refine zO ?_ | refine Ob.auto ?_ | refine zD 300 ?_ | (refine zQ 300 ?_) | (apply zB <;> intro hb <;> (try simp [-zd] at hb) <;> try (exfalso; omega)) | refine Ob.intro ?_ ?_))
  ·((conv => whnf); refine zT 300 [] (qda p (by omega) frm to 0 node (-1) (-1) (-1)) qa ?_)
   (repeat' ((conv => whnf); first | refine zA ?_ | refine zO ?_ | refine Ob.auto ?_ | refine zD 300 ?_ | (refine zQ 300 ?_) | (apply zB <;> intro hb <;> (try simp [-zd] at hb) <;> try (exfalso; omega)) | refine Ob.intro ?_ ?_))
   (refine ⟨⟨Le.refl _, qa⟩, qdf rfl (SoLe.refl _)⟩)
 | cons k ks ih =>
  intro p frm to hp
  have hs := hsz _ _ _ _ hp
  cases ks with
  | nil =>
   refine qdg (T := tab Tryz.prog) (C := {}) 5 300 (fun _ => rfl) Tryz.func69 rfl (by kernel_rfl) (by kernel_rfl) (fun c0 rdb mpb => ?_)
   (repeat' ((conv => whnf); first | refine zA ?_ | refine zO ?_ | refine Ob.auto ?_ | refine zD 300 ?_ | (refine zQ 300 ?_) | (apply zB <;> intro hb <;> (try simp [-zd] at hb) <;> try (exfalso; omega)) | refine Ob.intro ?_ ?_))
   ((conv => whnf); refine CallY.trip [0, 1] (h1 k p frm to hp) (by kernel_rfl) leA qa (by exact qb rfl) (by exact qb rfl) ?_)
   (repeat' ((conv => whnf); first | refine zA ?_ | refine zO ?_ | refine Ob.auto ?_ | refine zD 300 ?_ | (refine zQ 300 ?_) | (apply zB <;> intro hb <;> (try simp [-zd] at hb) <;> try (exfalso; omega)) | refine Ob.intro ?_ ?_))
   (refine ⟨⟨Le.refl _, qa⟩, qdf rfl (SoLe.refl _)⟩)
  | cons k' ks =>
   obtain ⟨h3, h4⟩ := h2 k k' ks p frm to hp
   refine qdg (T := tab Tryz.prog) (C := {}) 5 300 (fun _ => rfl) Tryz.func69 rfl (by kernel_rfl) (by kernel_rfl) (fun c0 rdb mpb => ?_)
   (repeat' ((conv => whnf); first | refine zA ?_ | refine zO ?_ | refine Ob.auto ?_ | (refine Ob.intro (by (exact ⟨by omega, by first | omega | (simp; omega)⟩)) ?_) | refine zC 300 (qay p (by omega) (by omega)) ?_ | refine zG 300 (fun hg => qay p (by omega) (by omega)) ?_ | (refine CallY.con (qay p (by omega) (by omega)) (by rfl) leA ?_) | (refine CallZ.con (fun hg => qay p (by omega) (by omega)) qc (by rfl) ?_) | refine zE 300 (qay p (by omega) (by omega)) ?_ | refine zF 300 (fun hg => qay p (by omega) (by omega)) ?_ | refine zD 300 ?_ | (refine zQ 300 ?_) | (apply zB <;> intro hb <;> (try simp [-zd] at hb) <;> try (exfalso; omega)) | refine Ob.intro ?_ ?_))
   ((conv => whnf); refine CallY.trip [0, 1] (h3) (by kernel_rfl) leA qa (by exact qb rfl) (by exact qb rfl) ?_)
   (repeat' ((conv => whnf); first | refine Ob.auto ?_ | (refine zN 300 ?_) | (apply zB <;> intro hb <;> (try simp [-zd] at hb) <;> try (exfalso; omega)) | refine Ob.intro ?_ ?_))
   ((conv => whnf); refine AltG.none (by kernel_rfl) (EndG.go ?_))
   (repeat' ((conv => whnf); first | refine Ob.auto ?_ | (refine zN 300 ?_) | (apply zB <;> intro hb <;> (try simp [-zd] at hb) <;> try (exfalso; omega)) | refine Ob.intro ?_ ?_))
   ((conv => whnf); refine qdq [0, 1, 2, 3, 4] 3 rfl frzA ?_)
   (repeat' ((conv => whnf); first | refine zA ?_ | refine zO ?_ | refine Ob.auto ?_ | (refine Ob.intro (by (exact ⟨by omega, by first | omega | (simp; omega)⟩)) ?_) | refine zD 300 ?_ | (refine zQ 300 ?_) | (apply zB <;> intro hb <;> (try simp [-zd] at hb) <;> try (exfalso; omega)) | refine Ob.intro ?_ ?_))
   ((conv => whnf); refine CallY.trip [0, 1] (ih (st (qh p) k frm p.places) p.places to h4) (by kernel_rfl) ⟨Le.refl _, Le.refl _, Le.slc (by simp) (fun i hi => by rw [show Int.toNat 1 = 1 from rfl, Nat.add_comm]; rfl), Le.refl _, Le.refl _, Le.refl _, trivial⟩ qa (by exact qb rfl) (by exact qb rfl) ?_)
   (repeat' ((conv => whnf); first | refine zA ?_ | refine zO ?_ | refine Ob.auto ?_ | refine zD 300 ?_ | (refine zQ 300 ?_) | (apply zB <;> intro hb <;> (try simp [-zd] at hb) <;> try (exfalso; omega)) | refine Ob.intro ?_ ?_))
   (refine ⟨⟨Le.refl _, qa⟩, qdf rfl (SoLe.refl _)⟩)
end
end Go.Proofs.YtdoaagphhjggbaaGreat
end
section
/- Contracts: automata by the document's answer: statements, kind by kind. -/
namespace Go.Proofs.YtdoaagphhjggbaaGreat
open List renaming getD_eq_getElem?_getD → zd
open Go Go.Sx Go.RowKit Go.St
set_option maxRecDepth 100000
set_option maxHeartbeats 8000000
section
variable (m : Md) (nv : Nat) (fv : Nat → List AV) (np : Nat) (fp : Nat → List AV) (p : Pr) (a frm to : Int) (h0 : 0 ≤ a) (h1 : a < m.tree.length)
abbrev qgh (m : Md) (nv : Nat) (fv : Nat → List AV) (np : Nat) (fp : Nat → List AV) (p : Pr) (a frm to : Int) (q : Pr) : Prop := qik 100 [mdO m nv np, prV p, iv a, iv frm, iv to] [vrSO nv fv, pcSO np fp] q
abbrev qku (m : Md) (nv : Nat) (fv : Nat → List AV) (np : Nat) (fp : Nat → List AV) (p : Pr) (a frm to : Int) (q : Pr) : Prop := qik 134 [mdO m nv np, prV p, iv a, iv frm, iv to] [vrSO nv fv, pcSO np fp] q
include h0 h1 in
theorem stat6_trip (hk : (m.tree.getD a.toNat Nd.none).kind = 6) (hk1 : (m.tree.getD a.toNat Nd.none).kids.length = 1) (hw1 : (m.tree.getD a.toNat Nd.none).words.length = 1) (hE : p.edges.length ≤ 50000) (hn : p.names.length = p.vars.length ∧ p.names.length ≤ 100000)
  (hf : 0 ≤ qcm p.names ((m.tree.getD a.toNat Nd.none).words.getD 0 []) ∧ qcm p.names ((m.tree.getD a.toNat Nd.none).words.getD 0 []) < p.names.length) :
  qgh m nv fv np fp p a frm to (putF p frm to 1 a ((m.tree.getD a.toNat Nd.none).kids.getD 0 0) (p.vars.getD (qcm p.names ((m.tree.getD a.toNat Nd.none).words.getD 0 [])).toNat 0) (-1)) := by
 refine qdg (T := tab Tryz.prog) (C := {}) 5 1500 (fun _ => rfl) Tryz.func100 rfl (by kernel_rfl) (by kernel_rfl) (fun c0 rdb mpb => ?_)
 (repeat' ((conv => whnf); first | refine zA ?_ | refine zO ?_ | refine Ob.auto ?_ | refine zI ?_ | refine zC 1500 (qfn p.names (by omega) ((m.tree.getD a.toNat Nd.none).words.getD 0 [])) ?_ | refine zG 1500 (fun hg => qfn p.names (by omega) ((m.tree.getD a.toNat Nd.none).words.getD 0 [])) ?_ | (refine CallY.con (qfn p.names (by omega) ((m.tree.getD a.toNat Nd.none).words.getD 0 [])) (by rfl) leA ?_) | (refine CallZ.con (fun hg => qfn p.names (by omega) ((m.tree.getD a.toNat Nd.none).words.getD 0 [])) qc (by rfl) ?_) | refine zE 1500 (qfn p.names (by omega) ((m.tree.getD a.toNat Nd.none).words.getD 0 [])) ?_ | refine zF 1500 (fun hg => qfn p.names (by omega) ((m.tree.getD a.toNat Nd.none).words.getD 0 [])) ?_ | refine zD 1500 ?_ | (refine zQ 1500 ?_) | (apply zB <;> intro hb <;> (try simp [-zd] at hb) <;> try (exfalso; omega)) | refine Ob.intro ?_ ?_))
 ((conv => whnf); refine CallY.trip [] (qda p (by omega) frm to 1 a ((m.tree.getD a.toNat Nd.none).kids.getD 0 0) (p.vars.getD (qcm p.names ((m.tree.getD a.toNat Nd.none).words.getD 0 [])).toNat 0) (-1)) (by kernel_rfl) leA qa (by exact qb rfl) (by exact qb rfl) ?_)
 (repeat' ((conv => whnf); first | refine zA ?_ | refine zO ?_ | refine Ob.auto ?_ | refine zD 1500 ?_ | (refine zQ 1500 ?_) | (apply zB <;> intro hb <;> (try simp [-zd] at hb) <;> try (exfalso; omega)) | refine Ob.intro ?_ ?_))
 (refine ⟨⟨Le.refl _, qa⟩, qdf rfl (SoLe.refl _)⟩)
include h0 h1 in
theorem stat7_trip (hk : (m.tree.getD a.toNat Nd.none).kind = 7) (hk1 : (m.tree.getD a.toNat Nd.none).kids.length = 1) (hw1 : (m.tree.getD a.toNat Nd.none).words.length = 1) (hE : p.edges.length ≤ 50000) (hC : m.chans.length ≤ 1000000) :
  qgh m nv fv np fp p a frm to (putF p frm to 2 a ((m.tree.getD a.toNat Nd.none).kids.getD 0 0) (-1) (qfi m.chans ((m.tree.getD a.toNat Nd.none).words.getD 0 []))) := by
 refine qdg (T := tab Tryz.prog) (C := {}) 5 1500 (fun _ => rfl) Tryz.func100 rfl (by kernel_rfl) (by kernel_rfl) (fun c0 rdb mpb => ?_)
 (repeat' ((conv => whnf); first | refine zA ?_ | refine zO ?_ | refine Ob.auto ?_ | refine zI ?_ | refine zD 1500 ?_ | (refine zQ 1500 ?_) | (apply zB <;> intro hb <;> (try simp [-zd] at hb) <;> try (exfalso; omega)) | refine Ob.intro ?_ ?_))
 ((conv => whnf); refine CallY.lend (jdd m nv fv np fp hC ((m.tree.getD a.toNat Nd.none).words.getD 0 [])) (by repeat' (first | exact trivial | exact ⟨rfl, rfl⟩ | exact rfl | assumption | (refine And.intro ?_ ?_) | (intro _))) leA (by rfl) ?_)
 (repeat' ((conv => whnf); first | refine Ob.auto ?_ | (refine zN 1500 ?_) | (apply zB <;> intro hb <;> (try simp [-zd] at hb) <;> try (exfalso; omega)) | refine Ob.intro ?_ ?_))
 ((conv => whnf); refine CallY.trip [] (qda p (by omega) frm to 2 a ((m.tree.getD a.toNat Nd.none).kids.getD 0 0) (-1) (qfi m.chans ((m.tree.getD a.toNat Nd.none).words.getD 0 []))) (by kernel_rfl) leA qa (by exact qb rfl) (by exact qb rfl) ?_)
 (repeat' ((conv => whnf); first | refine Ob.auto ?_ | (refine zN 1500 ?_) | (apply zB <;> intro hb <;> (try simp [-zd] at hb) <;> try (exfalso; omega)) | refine Ob.intro ?_ ?_))
 ((conv => whnf); refine AltG.same 14 (by kernel_rfl) (by repeat' (first | exact trivial | exact fun h => Bool.noConfusion h | exact fun _ => ⟨rfl, rfl⟩ | (refine And.intro ?_ ?_))) (EndG.go ?_))
 (repeat' ((conv => whnf); first | refine zA ?_ | refine zO ?_ | refine Ob.auto ?_ | refine zD 1500 ?_ | (refine zQ 1500 ?_) | (apply zB <;> intro hb <;> (try simp [-zd] at hb) <;> try (exfalso; omega)) | refine Ob.intro ?_ ?_))
 (refine ⟨⟨Le.refl _, qa⟩, qdf rfl (SoLe.refl _)⟩)
end
end Go.Proofs.YtdoaagphhjggbaaGreat
end
section
/- Contracts: automata by the document's answer: statements, kind by kind: more. -/
namespace Go.Proofs.YtdoaagphhjggbaaGreat
open List renaming getD_eq_getElem?_getD → zd
open Go Go.Sx Go.RowKit Go.St
set_option maxRecDepth 100000
set_option maxHeartbeats 8000000
section
variable (m : Md) (nv : Nat) (fv : Nat → List AV) (np : Nat) (fp : Nat → List AV) (p : Pr) (a frm to : Int) (h0 : 0 ≤ a) (h1 : a < m.tree.length)
include h0 h1 in
theorem stat8_trip (hk : (m.tree.getD a.toNat Nd.none).kind = 8) (hn1 : (m.tree.getD a.toNat Nd.none).nums.length = 1) (hw2 : (m.tree.getD a.toNat Nd.none).words.length = 2) (hE : p.edges.length ≤ 50000) (hC : m.chans.length ≤ 1000000) (hn : p.names.length = p.vars.length ∧ p.names.length ≤ 100000)
  (hf : 0 ≤ qcm p.names ((m.tree.getD a.toNat Nd.none).words.getD 1 []) ∧ qcm p.names ((m.tree.getD a.toNat Nd.none).words.getD 1 []) < p.names.length) (hF : 0 ≤ frm ∧ frm < p.rest.length) (hR : p.rest.length ≤ 100000) :
  qgh m nv fv np fp p a frm to (putF (qab p frm ((m.tree.getD a.toNat Nd.none).nums.getD 0 0)) frm to 3 a (-1) (p.vars.getD (qcm p.names ((m.tree.getD a.toNat Nd.none).words.getD 1 [])).toNat 0) (qfi m.chans ((m.tree.getD a.toNat Nd.none).words.getD 0 []))) := by
 have hE2 : (qab p frm ((m.tree.getD a.toNat Nd.none).nums.getD 0 0)).edges.length ≤ 100000 := by show p.edges.length ≤ 100000; omega
 have e1 : (qab p frm ((m.tree.getD a.toNat Nd.none).nums.getD 0 0)).vars.length = p.vars.length := rfl
 refine qdg (T := tab Tryz.prog) (C := {}) 5 1500 (fun _ => rfl) Tryz.func100 rfl (by kernel_rfl) (by kernel_rfl) (fun c0 rdb mpb => ?_)
 (repeat' ((conv => whnf); first | refine zA ?_ | refine zO ?_ | refine Ob.auto ?_ | refine zI ?_ | refine zC 1500 (qfn p.names (by omega) ((m.tree.getD a.toNat Nd.none).words.getD 1 [])) ?_ | refine zG 1500 (fun hg => qfn p.names (by omega) ((m.tree.getD a.toNat Nd.none).words.getD 1 [])) ?_ | (refine CallY.con (qfn p.names (by omega) ((m.tree.getD a.toNat Nd.none).words.getD 1 [])) (by rfl) leA ?_) | (refine CallZ.con (fun hg => qfn p.names (by omega) ((m.tree.getD a.toNat Nd.none).words.getD 1 [])) qc (by rfl) ?_) | refine zC 1500 (qcq p frm ((m.tree.getD a.toNat Nd.none).nums.getD 0 0) hF hR) ?_ | refine zG 1500 (fun hg => qcq p frm ((m.tree.getD a.toNat Nd.none).nums.getD 0 0) hF hR) ?_ | (refine CallY.con (qcq p frm ((m.tree.getD a.toNat Nd.none).nums.getD 0 0) hF hR) (by rfl) leA ?_) | (refine CallZ.con (fun hg => qcq p frm ((m.tree.getD a.toNat Nd.none).nums.getD 0 0) hF hR) qc (by rfl) ?_) | refine zE 1500 (qfn p.names (by omega) ((m.tree.getD a.toNat Nd.none).words.getD 1 [])) ?_ | refine zF 1500 (fun hg => qfn p.names (by omega) ((m.tree.getD a.toNat Nd.none).words.getD 1 [])) ?_ | refine zE 1500 (qcq p frm ((m.tree.getD a.toNat Nd.none).nums.getD 0 0) hF hR) ?_ | refine zF 1500 (fun hg => qcq p frm ((m.tree.getD a.toNat Nd.none).nums.getD 0 0) hF hR) ?_ | refine zD 1500 ?_ | (refine zQ 1500 ?_) | (apply zB <;> intro hb <;> (try simp [-zd] at hb) <;> try (exfalso; omega)) | refine Ob.intro ?_ ?_))
 ((conv => whnf); refine CallY.lend (jdd m nv fv np fp hC ((m.tree.getD a.toNat Nd.none).words.getD 0 [])) (by repeat' (first | exact trivial | exact ⟨rfl, rfl⟩ | exact rfl | assumption | (refine And.intro ?_ ?_) | (intro _))) leA (by rfl) ?_)
 (repeat' ((conv => whnf); first | refine Ob.auto ?_ | (refine zN 1500 ?_) | (apply zB <;> intro hb <;> (try simp [-zd] at hb) <;> try (exfalso; omega)) | refine Ob.intro ?_ ?_))
 ((conv => whnf); refine CallY.trip [] (qda (qab p frm ((m.tree.getD a.toNat Nd.none).nums.getD 0 0)) hE2 frm to 3 a (-1) (p.vars.getD (qcm p.names ((m.tree.getD a.toNat Nd.none).words.getD 1 [])).toNat 0) (qfi m.chans ((m.tree.getD a.toNat Nd.none).words.getD 0 []))) (by kernel_rfl) leA qa (by exact qb rfl) (by exact qb rfl) ?_)
 (repeat' ((conv => whnf); first | refine Ob.auto ?_ | (refine zN 1500 ?_) | (apply zB <;> intro hb <;> (try simp [-zd] at hb) <;> try (exfalso; omega)) | refine Ob.intro ?_ ?_))
 ((conv => whnf); refine AltG.same 21 (by kernel_rfl) (by repeat' (first | exact trivial | exact fun h => Bool.noConfusion h | exact fun _ => ⟨rfl, rfl⟩ | (refine And.intro ?_ ?_))) (EndG.go ?_))
 (repeat' ((conv => whnf); first | refine zA ?_ | refine zO ?_ | refine Ob.auto ?_ | refine zD 1500 ?_ | (refine zQ 1500 ?_) | (apply zB <;> intro hb <;> (try simp [-zd] at hb) <;> try (exfalso; omega)) | refine Ob.intro ?_ ?_))
 (refine ⟨⟨Le.refl _, qa⟩, qdf rfl (SoLe.refl _)⟩)
include h0 h1 in
theorem stat9_trip (hk : (m.tree.getD a.toNat Nd.none).kind = 9) (hk1 : (m.tree.getD a.toNat Nd.none).kids.length = 1) (hn1 : (m.tree.getD a.toNat Nd.none).nums.length = 1) (hE : p.edges.length ≤ 50000) (hF : 0 ≤ frm ∧ frm < p.rest.length) (hR : p.rest.length ≤ 100000) :
  qgh m nv fv np fp p a frm to (putF (qab p frm ((m.tree.getD a.toNat Nd.none).nums.getD 0 0)) frm to 4 a ((m.tree.getD a.toNat Nd.none).kids.getD 0 0) (-1) (-1)) := by
 have hE2 : (qab p frm ((m.tree.getD a.toNat Nd.none).nums.getD 0 0)).edges.length ≤ 100000 := by show p.edges.length ≤ 100000; omega
 refine qdg (T := tab Tryz.prog) (C := {}) 5 1500 (fun _ => rfl) Tryz.func100 rfl (by kernel_rfl) (by kernel_rfl) (fun c0 rdb mpb => ?_)
 (repeat' ((conv => whnf); first | refine zA ?_ | refine zO ?_ | refine Ob.auto ?_ | refine zI ?_ | refine zC 1500 (qcq p frm ((m.tree.getD a.toNat Nd.none).nums.getD 0 0) hF hR) ?_ | refine zG 1500 (fun hg => qcq p frm ((m.tree.getD a.toNat Nd.none).nums.getD 0 0) hF hR) ?_ | (refine CallY.con (qcq p frm ((m.tree.getD a.toNat Nd.none).nums.getD 0 0) hF hR) (by rfl) leA ?_) | (refine CallZ.con (fun hg => qcq p frm ((m.tree.getD a.toNat Nd.none).nums.getD 0 0) hF hR) qc (by rfl) ?_) | refine zE 1500 (qcq p frm ((m.tree.getD a.toNat Nd.none).nums.getD 0 0) hF hR) ?_ | refine zF 1500 (fun hg => qcq p frm ((m.tree.getD a.toNat Nd.none).nums.getD 0 0) hF hR) ?_ | refine zD 1500 ?_ | (refine zQ 1500 ?_) | (apply zB <;> intro hb <;> (try simp [-zd] at hb) <;> try (exfalso; omega)) | refine Ob.intro ?_ ?_))
 ((conv => whnf); refine CallY.trip [] (qda (qab p frm ((m.tree.getD a.toNat Nd.none).nums.getD 0 0)) hE2 frm to 4 a ((m.tree.getD a.toNat Nd.none).kids.getD 0 0) (-1) (-1)) (by kernel_rfl) leA qa (by exact qb rfl) (by exact qb rfl) ?_)
 (repeat' ((conv => whnf); first | refine zA ?_ | refine zO ?_ | refine Ob.auto ?_ | refine zD 1500 ?_ | (refine zQ 1500 ?_) | (apply zB <;> intro hb <;> (try simp [-zd] at hb) <;> try (exfalso; omega)) | refine Ob.intro ?_ ?_))
 (refine ⟨⟨Le.refl _, qa⟩, qdf rfl (SoLe.refl _)⟩)
include h0 h1 in
theorem stat15_trip (hk : (m.tree.getD a.toNat Nd.none).kind = 15) (hE : p.edges.length ≤ 50000) : qgh m nv fv np fp p a frm to (putF p frm 1 0 a (-1) (-1) (-1)) := by
 refine qdg (T := tab Tryz.prog) (C := {}) 5 1500 (fun _ => rfl) Tryz.func100 rfl (by kernel_rfl) (by kernel_rfl) (fun c0 rdb mpb => ?_)
 (repeat' ((conv => whnf); first | refine zA ?_ | refine zO ?_ | refine Ob.auto ?_ | refine zI ?_ | refine zD 1500 ?_ | (refine zQ 1500 ?_) | (apply zB <;> intro hb <;> (try simp [-zd] at hb) <;> try (exfalso; omega)) | refine Ob.intro ?_ ?_))
 (first | ((conv => whnf); refine zT 1500 [] (qda p (by omega) frm 1 0 a (-1) (-1) (-1)) qa ?_) | ((conv => whnf); refine CallY.trip [] (qda p (by omega) frm 1 0 a (-1) (-1) (-1)) (by kernel_rfl) leA qa (by exact qb rfl) (by exact qb rfl) ?_))
 (repeat' ((conv => whnf); first | refine zA ?_ | refine zO ?_ | refine Ob.auto ?_ | refine zD 1500 ?_ | (refine zQ 1500 ?_) | (apply zB <;> intro hb <;> (try simp [-zd] at hb) <;> try (exfalso; omega)) | refine Ob.intro ?_ ?_))
 (refine ⟨⟨Le.refl _, qa⟩, qdf rfl (SoLe.refl _)⟩)
include h0 h1 in
theorem stat14_trip (hk : (m.tree.getD a.toNat Nd.none).kind = 14) (hE : p.edges.length ≤ 50000) : qgh m nv fv np fp p a frm to (putF p frm to 0 a (-1) (-1) (-1)) := by
 refine qdg (T := tab Tryz.prog) (C := {}) 5 1500 (fun _ => rfl) Tryz.func100 rfl (by kernel_rfl) (by kernel_rfl) (fun c0 rdb mpb => ?_)
 (repeat' ((conv => whnf); first | refine zA ?_ | refine zO ?_ | refine Ob.auto ?_ | refine zI ?_ | refine zD 1500 ?_ | (refine zQ 1500 ?_) | (apply zB <;> intro hb <;> (try simp [-zd] at hb) <;> try (exfalso; omega)) | refine Ob.intro ?_ ?_))
 (first | ((conv => whnf); refine zT 1500 [] (qda p (by omega) frm to 0 a (-1) (-1) (-1)) qa ?_) | ((conv => whnf); refine CallY.trip [] (qda p (by omega) frm to 0 a (-1) (-1) (-1)) (by kernel_rfl) leA qa (by exact qb rfl) (by exact qb rfl) ?_))
 (repeat' ((conv => whnf); first | refine zA ?_ | refine zO ?_ | refine Ob.auto ?_ | refine zD 1500 ?_ | (refine zQ 1500 ?_) | (apply zB <;> intro hb <;> (try simp [-zd] at hb) <;> try (exfalso; omega)) | refine Ob.intro ?_ ?_))
 (refine ⟨⟨Le.refl _, qa⟩, qdf rfl (SoLe.refl _)⟩)
end
end Go.Proofs.YtdoaagphhjggbaaGreat
end
