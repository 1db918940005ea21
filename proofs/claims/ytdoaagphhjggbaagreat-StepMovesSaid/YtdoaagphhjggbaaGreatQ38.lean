/- Some texts of the library, one behind the other. -/
import Derived.Test.YtdoaagphhjggbaaGreatQ35
import Derived.Test.YtdoaagphhjggbaaGreatQ37
import Derived.Test.YtdoaagphhjggbaaGreatQMkQ
import Derived.Test.YtdoaagphhjggbaaGreatQ36
import Derived.Test.YtdoaagphhjggbaaGreatQ31
import Derived.Test.YtdoaagphhjggbaaGreatQ2
section
/- Contracts of step: which edges are enabled. -/
namespace Go.Proofs.YtdoaagphhjggbaaGreat
open List renaming getD_eq_getElem?_getD → zd
open Go Go.Sx Go.RowKit Go.St
set_option maxRecDepth 100000
set_option maxHeartbeats 4000000
theorem qeo (m : Md) (hm : MOk m) (s : Stt) (hf : qw m s = true) (hs : SSz s) (p : Nat) (hp : p < m.procs.length) (e : Ed) {pl : Int} (he : EdOk m.tree.length m.vars.length m.chans.length pl e) :
  Con Tryz.prog 44 [m.av, s.av, iv p, .agg e.cells] (.bool (canB m s p e)) := by
 have hso := qpu hm hf
 have hat : s.at_.length = m.procs.length := ((qaa m s).1 hf).1.1
 have hcl := hso.cl
 have hch := he.chn
 have hsv : e.act = 1 ∨ e.act = 2 ∨ e.act = 4 ∨ e.act = 5 → sval m p s e.expr = val m p s e.expr ∧ decide (e.expr < 0) = false := fun h => ⟨if_pos ⟨(he.ex h).1, (he.ex h).2, hf⟩, decide_eq_false (by have := he.ex h; omega)⟩
 have hnx : e.act = 0 ∨ e.act = 3 → decide (e.expr < 0) = true := fun h => decide_eq_true (by have := he.nex h; omega)
 have hac := he.act
 refine qd (T := tab Tryz.prog) (C := {}) 300 (fun _ => rfl) Tryz.func44 rfl (by kernel_rfl) (by kernel_rfl) (fun c0 rdb => ?_)
 (repeat' ((conv => whnf); first | refine zA ?_ | refine zO ?_ | refine Ob.auto ?_ | refine zI ?_ | refine zC 300 (qjn m hm p s hs e.expr) ?_ | refine zG 300 (fun hg => qjn m hm p s hs e.expr) ?_ | (refine CallY.con (qjn m hm p s hs e.expr) (by rfl) leA ?_) | (refine CallZ.con (fun hg => qjn m hm p s hs e.expr) qc (by rfl) ?_) | refine zE 300 (qjn m hm p s hs e.expr) ?_ | refine zF 300 (fun hg => qjn m hm p s hs e.expr) ?_ | refine zD 300 ?_ | (apply zB <;> intro hb <;> (try simp [-zd] at hb) <;> try (exfalso; omega)) | refine Ob.intro ?_ ?_))
 all_goals refine Le.of_eq (congrArg AV.bool ?_)
 all_goals unfold canB qlen room
 ·have h : (s.at_.getD p 0 == e.frm) = false := by simpa [-zd] using hb
  rw [h]; rfl
 ·have h : (s.at_.getD p 0 == e.frm) = true := by simp [-zd, *]
  have h0 : e.act = 0 := by assumption
  rw [h, hnx (.inl h0), if_neg (by omega), if_neg (by omega), if_neg (by omega), if_neg (by omega)]; rfl
 ·have h : (s.at_.getD p 0 == e.frm) = true := by simp [-zd, *]
  have h0 : e.act = 3 := by assumption
  rw [h, hnx (.inr h0), if_neg (by omega), if_pos h0]; rfl
 ·have h0 : e.act = 2 := by assumption
  have h : decide (((s.chans.getD e.chn.toNat []).length : Int) < (m.chans.getD e.chn.toNat Ch.none).room) = false := decide_eq_false (by omega)
  rw [if_pos h0, h, Bool.and_false]
 ·have h : (s.at_.getD p 0 == e.frm) = true := by simp [-zd, *]
  have h0 : e.act = 2 := by assumption
  obtain ⟨h1, h2⟩ := hsv (by omega)
  have h3 : decide (((s.chans.getD e.chn.toNat []).length : Int) < (m.chans.getD e.chn.toNat Ch.none).room) = true := decide_eq_true (by omega)
  rw [h, h1, h2, if_pos h0, h3, Bool.and_true]; rfl
 ·have h : (s.at_.getD p 0 == e.frm) = true := by simp [-zd, *]
  have h0 : e.act = 4 := by assumption
  obtain ⟨h1, h2⟩ := hsv (by omega)
  rw [h, h1, h2, if_neg (by omega), if_neg (by omega), if_pos h0, if_neg (of_decide_eq_false h2)]; rfl
 ·have h : (s.at_.getD p 0 == e.frm) = true := by simp [-zd, *]
  have h0 : e.act = 5 := by assumption
  obtain ⟨h1, h2⟩ := hsv (by omega)
  rw [h, h1, h2, if_neg (by omega), if_neg (by omega), if_neg (by omega), if_pos h0, if_neg (of_decide_eq_false h2)]; rfl
 ·have h : (s.at_.getD p 0 == e.frm) = true := by simp [-zd, *]
  have h0 : e.act = 1 := by omega
  obtain ⟨h1, h2⟩ := hsv (by omega)
  rw [h, h1, h2, if_neg (by omega), if_neg (by omega), if_neg (by omega), if_neg (by omega), Bool.and_true]; rfl
theorem qfr (m : Md) (hm : MOk m) (s : Stt) (hcl : s.chans.length = m.chans.length) (c : Nat) (hc : c < m.chans.length) : Con Tryz.prog 45 [m.av, s.av, iv c] (.bool (qps m s c)) := by
 refine qd (T := tab Tryz.prog) (C := {}) 300 (fun _ => rfl) Tryz.func45 rfl (by kernel_rfl) (by kernel_rfl) (fun c0 rdb => ?_)
 (repeat' ((conv => whnf); first | refine zA ?_ | refine zO ?_ | refine Ob.auto ?_ | refine zI ?_ | refine zD 300 ?_ | (apply zB <;> intro hb <;> (try simp [-zd] at hb) <;> try (exfalso; omega)) | refine Ob.intro ?_ ?_))
 exact Le.refl _
theorem qfs (m : Md) (hm : MOk m) (s : Stt) (hcl : s.chans.length = m.chans.length) (c : Nat) (hc : c < m.chans.length) : Con Tryz.prog 46 [m.av, s.av, iv c] (.bool (qpt m s c)) := by
 refine qd (T := tab Tryz.prog) (C := {}) 300 (fun _ => rfl) Tryz.func46 rfl (by kernel_rfl) (by kernel_rfl) (fun c0 rdb => ?_)
 (repeat' ((conv => whnf); first | refine zA ?_ | refine zO ?_ | refine Ob.auto ?_ | refine zI ?_ | refine zD 300 ?_ | (apply zB <;> intro hb <;> (try simp [-zd] at hb) <;> try (exfalso; omega)) | refine Ob.intro ?_ ?_))
 exact Le.refl _
theorem jec (m : Md) (hm : MOk m) (s : Stt) (hf : qw m s = true) (hs : SSz s) (p : Nat) (hp : p < m.procs.length) {pl : Int} (he : ∀ e ∈ qm m p, EdOk m.tree.length m.vars.length m.chans.length pl e) (hn : (qm m p).length ≤ 40000) :
  Con Tryz.prog 83 [m.av, s.av, iv p] (.bool (qwz m s p)) := by
 refine qd (T := tab Tryz.prog) (C := {}) 300 (fun _ => rfl) Tryz.func83 rfl (by kernel_rfl) (by kernel_rfl) (fun c0 rdb => ?_)
 (repeat' ((conv => whnf); first | refine zA ?_ | refine zO ?_ | refine Ob.auto ?_ | refine zI ?_ | refine zD 300 ?_ | (apply zB <;> intro hb <;> (try simp [-zd] at hb) <;> try (exfalso; omega)) | refine Ob.intro ?_ ?_))
 ((conv => whnf); refine qp (fun _ => rfl) 300 1 (fun i : Nat => [(16, iv i), (6, .bool false)]) (fun _ => []) (fun i => i ≤ (qm m p).length ∧ ∀ j, j < i → canB m s p ((qm m p).getD j Ed.none) = false) (fun i => (qm m p).length - i) (0) (⟨Nat.zero_le _, fun j hj => absurd hj (Nat.not_lt_zero j)⟩) qa qa (fun _ => rfl) (by kernel_rfl) ?_; (conv => whnf))
 intro i hi
 (repeat' ((conv => whnf); first | refine zA ?_ | refine zO ?_ | refine Ob.auto ?_ | refine zI ?_ | refine zD 300 ?_ | (apply zB <;> intro hb <;> (try simp [-zd] at hb) <;> try (exfalso; omega)) | refine Ob.intro ?_ ?_))
 ·have hil : i < (qm m p).length := by assumption
  ((conv => whnf); refine qeu (fun _ => rfl) 300 (qeo m hm s hf hs p hp ((qm m p).getD i Ed.none) (he _ (qj _ _ _ hil))) (by rfl) leA (by kernel_rfl) ?_)
  (repeat' ((conv => whnf); first | refine zA ?_ | refine zO ?_ | refine Ob.auto ?_ | refine zI ?_ | refine zD 300 ?_ | (apply zB <;> intro hb <;> (try simp [-zd] at hb) <;> try (exfalso; omega)) | refine Ob.intro ?_ ?_))
  ·exact Le.of_eq (congrArg AV.bool (List.any_eq_true.2 ⟨_, qj _ _ _ hil, by assumption⟩).symm)
  ·((conv => whnf); refine ⟨i + 1, ⟨hil, qao hi.2 (by assumption)⟩, ⟨qa, qa⟩, ⟨qa, qa⟩, ?_⟩; (first | omega | (dsimp only; omega) | skip))
 ·have hil : (qm m p).length ≤ i := by assumption
  refine Le.of_eq (congrArg AV.bool ?_)
  unfold qwz
  rw [Eq.comm, List.any_eq_false]
  intro e hme
  obtain ⟨j, hj, rfl⟩ := List.mem_iff_getElem.1 hme
  have := hi.2 j (by omega)
  rw [zd, List.getElem?_eq_getElem hj] at this
  simp only [Option.getD_some] at this
  rw [this]; decide
def qjo (m : Md) (s : Stt) (p e : Int) : Bool := qw m s && decide (0 ≤ p ∧ p < m.procs.length ∧ 0 ≤ e ∧ e < (qm m p.toNat).length) && canB m s p.toNat ((qm m p.toNat).getD e.toNat Ed.none)
theorem qsq (m : Md) (hm : MOk m) (s : Stt) (hs : SSz s) (he : ∀ q ∈ m.procs, ∀ e ∈ q.edges, EdOk m.tree.length m.vars.length m.chans.length q.places e) (p e : Int) :
  Con Tryz.prog 21 [m.av, s.av, iv p, iv e] (.bool (qjo m s p e)) := by
 refine qd (T := tab Tryz.prog) (C := {}) 300 (fun _ => rfl) Tryz.func21 rfl (by kernel_rfl) (by kernel_rfl) (fun c0 rdb => ?_)
 (repeat' ((conv => whnf); first | refine zA ?_ | refine zO ?_ | refine Ob.auto ?_ | refine zI ?_ | refine zC 300 (jp m s hs) ?_ | refine zG 300 (fun hg => jp m s hs) ?_ | (refine CallY.con (jp m s hs) (by rfl) leA ?_) | (refine CallZ.con (fun hg => jp m s hs) qc (by rfl) ?_) | refine zE 300 (jp m s hs) ?_ | refine zF 300 (fun hg => jp m s hs) ?_ | refine zD 300 ?_ | (apply zB <;> intro hb <;> (try simp [-zd] at hb) <;> try (exfalso; omega)) | refine Ob.intro ?_ ?_))
 ·refine Le.of_eq (congrArg AV.bool ?_)
  have hb' : ¬ (qw m s = true ∧ 0 ≤ p ∧ p < m.procs.length ∧ 0 ≤ e ∧ e < (qm m p.toNat).length) := fun ⟨h1, h2, h3, h4, h5⟩ => by
   have h5' : e < (m.procs.getD p.toNat Pr.none).edges.length := h5
   rcases hb with (((hb | hb) | hb) | hb) | hb
   ·rw [h1] at hb; cases hb
   all_goals omega
  unfold qjo
  by_cases h1 : qw m s = true
  ·rw [decide_eq_false (fun h => hb' ⟨h1, h⟩), Bool.and_false]; rfl
  ·rw [Bool.not_eq_true] at h1
   rw [h1]; rfl
 ·obtain ⟨⟨⟨⟨hf, h0⟩, h1⟩, h2⟩, h3⟩ := hb
  obtain ⟨P, rfl⟩ := Int.eq_ofNat_of_zero_le h0
  obtain ⟨E, rfl⟩ := Int.eq_ofNat_of_zero_le h2
  have hP : P < m.procs.length := by omega
  have h3' : (E : Int) < (qm m P).length := h3
  have hE : E < (qm m P).length := by omega
  (repeat' ((conv => whnf); first | refine zA ?_ | refine zO ?_ | refine Ob.auto ?_ | refine zI ?_ | refine zC 300 (qeo m hm s hf hs P hP ((qm m P).getD E Ed.none) (he _ (qj _ _ _ hP) _ (qj _ _ _ hE))) ?_ | refine zG 300 (fun hg => qeo m hm s hf hs P hP ((qm m P).getD E Ed.none) (he _ (qj _ _ _ hP) _ (qj _ _ _ hE))) ?_ | (refine CallY.con (qeo m hm s hf hs P hP ((qm m P).getD E Ed.none) (he _ (qj _ _ _ hP) _ (qj _ _ _ hE))) (by rfl) leA ?_) | (refine CallZ.con (fun hg => qeo m hm s hf hs P hP ((qm m P).getD E Ed.none) (he _ (qj _ _ _ hP) _ (qj _ _ _ hE))) qc (by rfl) ?_) | refine zE 300 (qeo m hm s hf hs P hP ((qm m P).getD E Ed.none) (he _ (qj _ _ _ hP) _ (qj _ _ _ hE))) ?_ | refine zF 300 (fun hg => qeo m hm s hf hs P hP ((qm m P).getD E Ed.none) (he _ (qj _ _ _ hP) _ (qj _ _ _ hE))) ?_ | refine zD 300 ?_ | (refine zQ 300 ?_) | (apply zB <;> intro hb <;> (try simp [-zd] at hb) <;> try (exfalso; omega)) | refine Ob.intro ?_ ?_))
  refine Le.of_eq (congrArg AV.bool ?_)
  unfold qjo
  rw [hf, Int.toNat_natCast, Int.toNat_natCast, decide_eq_true ⟨by omega, by omega, by omega, by omega⟩]
  rfl
end Go.Proofs.YtdoaagphhjggbaaGreat
end
section
/- Steps in plain Lean: the moves of a state are those that are allowed, and what fits leads to what fits. Nothing of the program. -/
namespace Go.St
open List renaming getD_eq_getElem?_getD → zd
open Go Go.Sx
theorem qng {α : Type} (l : List α) (i j : Nat) (x d : α) : (l.set i x).getD j d = if j = i ∧ i < l.length then x else l.getD j d := by
 rw [zd, zd, List.getElem?_set]
 by_cases h : i = j
 ·subst h
  by_cases h2 : i < l.length
  ·rw [if_pos rfl, if_pos h2, if_pos ⟨rfl, h2⟩]; rfl
  ·rw [if_pos rfl, if_neg h2, if_neg (fun h => h2 h.2), List.getElem?_eq_none (by omega)]
 ·rw [if_neg h, if_neg (fun h2 => h h2.1.symm)]
section
variable {m : Md} {s : Stt}
theorem jpr (hf : qw m s = true) (p : Nat) (x : Int) (hx : 0 ≤ x ∧ x < (m.procs.getD p Pr.none).places) : qw m { s with at_ := s.at_.set p x } = true := by
 obtain ⟨h0, hA, hV, hC⟩ := (qaa m s).1 hf
 refine (qaa m _).2 ⟨⟨by simpa using h0.1, h0.2.1, h0.2.2.1, h0.2.2.2⟩, fun i hi => ?_, hV, hC⟩
 have hi' : i < s.at_.length := by simpa using hi
 have := hA i hi'
 unfold qki at *
 simp only
 rw [qng]
 split
 ·rename_i h; rw [h.1]; exact hx
 ·exact this
theorem jed (hf : qw m s = true) (k : Nat) (x : Int) (hx : trim x (m.vars.getD k Vr.none).width = x) : qw m { s with vars := s.vars.set k x } = true := by
 obtain ⟨h0, hA, hV, hC⟩ := (qaa m s).1 hf
 refine (qaa m _).2 ⟨⟨h0.1, by simpa using h0.2.1, h0.2.2.1, h0.2.2.2⟩, hA, fun i hi => ?_, hC⟩
 have hi' : i < s.vars.length := by simpa using hi
 have := hV i hi'
 unfold qlx at *
 simp only
 rw [qng]
 split
 ·rename_i h; rw [h.1]; exact hx
 ·exact this
theorem jee (hf : qw m s = true) (k : Nat) (c : List Int) (hc : (c.length : Int) ≤ (m.chans.getD k Ch.none).room) (hx : ∀ x ∈ c, trim x (m.chans.getD k Ch.none).width = x) : qw m { s with chans := s.chans.set k c } = true := by
 obtain ⟨h0, hA, hV, hC⟩ := (qaa m s).1 hf
 refine (qaa m _).2 ⟨⟨h0.1, h0.2.1, by simpa using h0.2.2.1, h0.2.2.2⟩, hA, hV, fun i hi => ?_⟩
 have hi' : i < s.chans.length := by simpa using hi
 have := hC i hi'
 unfold qjc qkj at *
 simp only
 rw [qng]
 split
 ·rename_i h; rw [h.1]; exact ⟨hc, fun q hq => hx _ (qj _ _ _ hq)⟩
 ·exact this
theorem qsr (hf : qw m s = true) (h : Int) (hh : -1 ≤ h ∧ h < m.procs.length) : qw m { s with holder := h } = true := by
 obtain ⟨h0, hA, hV, hC⟩ := (qaa m s).1 hf
 exact (qaa m _).2 ⟨⟨h0.1, h0.2.1, h0.2.2.1, hh⟩, hA, hV, hC⟩
theorem jef (hf : qw m s = true) (k : Nat) : ∀ x ∈ s.chans.getD k [], trim x (m.chans.getD k Ch.none).width = x := by
 obtain ⟨h0, hA, hV, hC⟩ := (qaa m s).1 hf
 intro x hx
 by_cases hk : k < s.chans.length
 ·obtain ⟨q, hq, rfl⟩ := List.mem_iff_getElem.1 hx
  have := (hC k hk).2 q hq
  unfold qkj at this
  rw [zd (l := s.chans.getD k []), List.getElem?_eq_getElem hq] at this
  exact this
 ·rw [zd, List.getElem?_eq_none (by omega)] at hx
  simp at hx
theorem qqn (hf : qw m s = true) {k : Nat} (hk : k < m.chans.length) : ((s.chans.getD k []).length : Int) ≤ (m.chans.getD k Ch.none).room := by
 obtain ⟨h0, _, _, hC⟩ := (qaa m s).1 hf
 exact (hC k (by rw [h0.2.2.1]; exact hk)).1
theorem qdx (hM : ModOk m) (hf : qw m s = true) : SSz s := by
 have h0 := ((qaa m s).1 hf).1
 have hz := hM.sz
 refine ⟨by rw [h0.1]; omega, by rw [h0.2.1]; omega, by rw [h0.2.2.1]; omega, fun c hc => ?_⟩
 obtain ⟨i, hi, rfl⟩ := List.mem_iff_getElem.1 hc
 have hi' : i < m.chans.length := by rw [← h0.2.2.1]; exact hi
 have h1 := qqn hf hi'
 have h2 := hM.ok.chan _ (qj m.chans i Ch.none hi')
 rw [zd, List.getElem?_eq_getElem hi] at h1
 simp only [Option.getD_some] at h1
 omega
def qdj (m : Md) (s : Stt) (v : Mv) : Bool :=
 if v.kind = 0 then decide (v.chn = 0 ∧ (s.holder = -1 ∨ s.holder = v.proc)) && (decide (0 ≤ v.proc ∧ v.proc < m.procs.length ∧ 0 ≤ v.edge ∧ v.edge < (qm m v.proc.toNat).length) && canB m s v.proc.toNat ((qm m v.proc.toNat).getD v.edge.toNat Ed.none))
 else if v.kind = 1 ∨ v.kind = 2 then decide (s.holder = -1 ∧ v.proc = 0 ∧ v.edge = 0 ∧ 0 ≤ v.chn ∧ v.chn < m.chans.length) && (if v.kind = 1 then qps m s v.chn.toNat else qpt m s v.chn.toNat)
 else false
theorem edOk (hM : ModOk m) {p : Nat} (hp : p < m.procs.length) {i : Nat} (hi : i < (qm m p).length) : EdOk m.tree.length m.vars.length m.chans.length (m.procs.getD p Pr.none).places ((qm m p).getD i Ed.none) :=
 (hM.pr _ (qj _ _ _ hp)).ed _ (qj _ _ _ hi)
theorem jeg (hM : ModOk m) (hf : qw m s = true) {p : Nat} {e : Ed} (hto : 0 ≤ e.to ∧ e.to < (m.procs.getD p Pr.none).places) (hcn : e.act = 2 → qlen s e.chn < room m e.chn) : qw m (qcg m s p e) = true := by
 have h0 := ((qaa m s).1 hf).1
 have ha := qsr (jpr hf p e.to hto) (-1) ⟨Int.le_refl _, by omega⟩
 unfold qcg
 simp only
 split
 ·exact jed ha _ _ (qpq _ _)
 split
 ·rename_i h2
  have := hcn h2
  unfold qlen room at this
  refine jee ha _ _ (by simp only [List.length_append, List.length_singleton]; omega) (fun x hx => ?_)
  rw [List.mem_append, List.mem_singleton] at hx
  rcases hx with hx | rfl
  ·exact jef hf _ x hx
  ·exact qpq _ _
 split
 ·have hb := jed ha e.var.toNat (trim ((s.chans.getD e.chn.toNat []).getD 0 0) (m.vars.getD e.var.toNat Vr.none).width) (qpq _ _)
  refine jee hb _ _ ?_ (fun x hx => jef hf _ x (List.mem_of_mem_drop hx))
  rw [List.length_drop]
  by_cases hk : e.chn.toNat < m.chans.length
  ·have := qqn hf hk; omega
  ·rw [zd (l := s.chans), List.getElem?_eq_none (by omega)]
   rw [zd, List.getElem?_eq_none (by omega)]
   simp [Ch.none]
 ·exact ha
theorem jeh {p : Nat} {e : Ed} (h : canB m s p e = true) (h2 : e.act = 2) : qlen s e.chn < room m e.chn := by
 unfold canB at h
 rw [if_pos h2, Bool.and_eq_true] at h
 exact of_decide_eq_true h.2
def Stt.zero : Stt := ⟨[], [], [], 0⟩
def doB (m : Md) (s : Stt) (v : Mv) : Bool := qw m s && qdj m s v
def qxb (m : Md) (s : Stt) (v : Mv) : Stt := if doB m s v = true then qkw m s v else Stt.zero
end
end Go.St
end
