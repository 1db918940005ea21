/- Contracts: automata by the document's answer: a row of statements. -/
import Derived.Test.YtdoaagphhjggbaaGreatQMk5
import Derived.Test.YtdoaagphhjggbaaGreatQ2
namespace Go.Proofs.YtdoaagphhjggbaaGreat
open Go Go.Sx Go.RowKit Go.St
set_option maxRecDepth 100000
set_option maxHeartbeats 8000000
section
variable (m : Md) (ht : Tree m.tree) (nw : Nat) (it : Int) (nv : Nat) (fv : Nat → List AV) (np : Nat) (fp : Nat → List AV)
include ht in
theorem row_trip (f : Nat) (ih : qvn m nw it nv fv np fp f) (g' : Nat) (hg : g' ≤ f) (b : Int) (ks : List Int) (p : Pr) (frm to next n : Int)
  (hw : (0 < next ∧ walkL (walkF m.tree g') m.tree.length ks next = (n, true) ∧ ∀ k ∈ ks, itemF m.tree k = it ∧ 6 ≤ qq m.tree k ∧ qq m.tree k ≤ 15))
  (hok : PrOk m.tree.length nw m.chans.length p) (hnd : Need m.tree it p.vars.length m.chans.length) (hfr : 0 ≤ frm ∧ frm < p.places) (hto : 0 ≤ to ∧ to < p.places)
  (hed : (p.edges.length : Int) + 4 * (n - next) + 1 ≤ 40000) (hpl : p.places + 4 * (n - next) + 1 ≤ 40000) :
  qhz 69 [mdO m nv np, prV p, ints ks, iv b, iv frm, iv to] [vrSO nv fv, pcSO np fp] (qbc (qd m.tree m.chans f) b p ks frm to) := by
 have hlen := ht.len
 refine jcv m nv fv np fp (qd m.tree m.chans f) b
  (fun ks p frm to => ∃ next n : Int, (0 < next ∧ walkL (walkF m.tree g') m.tree.length ks next = (n, true) ∧ ∀ k ∈ ks, itemF m.tree k = it ∧ 6 ≤ qq m.tree k ∧ qq m.tree k ≤ 15) ∧ PrOk m.tree.length nw m.chans.length p ∧ Need m.tree it p.vars.length m.chans.length ∧ (0 ≤ frm ∧ frm < p.places) ∧ (0 ≤ to ∧ to < p.places) ∧ (p.edges.length : Int) + 4 * (n - next) + 1 ≤ 40000 ∧ p.places + 4 * (n - next) + 1 ≤ 40000)
  (fun ks p frm to h => by
   obtain ⟨next, n, ⟨h0, h1, h2⟩, h3, h4, h5, h6, h7, h8⟩ := h
   have hg := qez m.tree (walkF m.tree g') (qaj m.tree g') ks next n (by omega) h1
   have hs := qre m.tree g' ks next n (by omega) h1
   have hsl := qrg ks next n hs hg.2.1
   have := h3.rl
   have := h3.pl
   refine ⟨⟨by omega, by omega, by omega, by omega⟩, ?_⟩
   by_cases hn : next ≤ m.tree.length
   ·have := hg.1.2 hn; omega
   ·cases ks with
    | nil => simp
    | cons k ks => obtain ⟨_, h, _⟩ := qak h1; omega)
  (fun k p frm to h => by
   obtain ⟨next, n, ⟨h0, h1, h2⟩, h3, h4, h5, h6, h7, h8⟩ := h
   obtain ⟨rfl, h9, m', h10, h11⟩ := qak h1
   simp only [walkL, Prod.mk.injEq, and_true] at h11
   subst h11
   have := h2 k (List.mem_cons_self ..)
   exact ih g' (by omega) p k m' frm to ⟨⟨⟨h0, h9⟩, h10, this.1⟩, h3, h4, h5, h6, by omega, by omega⟩ this.2)
  (fun k k' ks p frm to h => by
   obtain ⟨next, n, ⟨h0, h1, h2⟩, h3, h4, h5, h6, h7, h8⟩ := h
   obtain ⟨rfl, h9, m', h10, h11⟩ := qak h1
   have hkk := h2 k (List.mem_cons_self ..)
   have hat : At m.tree g' k m' it := ⟨⟨h0, h9⟩, h10, hkk.1⟩
   have hlt := hat.lt
   have hge := (qez m.tree (walkF m.tree g') (qaj m.tree g') (k' :: ks) m' n (by omega) h11).1.1
   have g1 := qfw h3
   have hv1 : (qf p).vars.length = p.vars.length := by rw [g1.same.2.2.2.2]
   have hpl : (qf p).places = p.places + 1 := rfl
   have hpe : (qf p).edges = p.edges := rfl
   have hpp := h3.pl
   obtain ⟨_, h12, _⟩ := qak h11
   have hlt2 : m' < n := by
    obtain ⟨e1, e2, m2, e3, e4⟩ := qak h11
    have := (qaj m.tree g' m' m2 (by omega) e3).1.1
    have := (qez m.tree (walkF m.tree g') (qaj m.tree g') ks m2 n (by omega) e4).1.1
    omega
   have g2 := qlv ht (nv := nw) m.chans f g' (by omega) (qf p) k m' frm p.places hat hkk.2 g1.ok (by rw [hv1]; exact h4) (by omega) (by omega)
   have hv2 : (qd m.tree m.chans f (qf p) k frm p.places).vars.length = p.vars.length := by rw [g2.same.2.2.2.2, hv1]
   have h13 := g2.pl
   have h14 := g2.ed
   rw [hpe] at h14
   refine ⟨ih g' (by omega) (qf p) k m' frm p.places ⟨hat, g1.ok, by rw [hv1]; exact h4, by omega, by omega, by rw [hpe]; omega, by omega⟩ hkk.2, m', n, ⟨by omega, h11, fun q hq => h2 q (List.mem_cons_of_mem _ hq)⟩, g2.ok, by rw [hv2]; exact h4, by omega, by omega, by omega, by omega⟩)
  ks p frm to ⟨next, n, hw, hok, hnd, hfr, hto, hed, hpl⟩
end
end Go.Proofs.YtdoaagphhjggbaaGreat
