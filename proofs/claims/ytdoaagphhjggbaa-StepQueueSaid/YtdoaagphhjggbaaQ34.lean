/- Some texts of the library, one behind the other. -/
import Derived.Test.YtdoaagphhjggbaaQ32
import Derived.Test.YtdoaagphhjggbaaQ33
import Derived.Test.YtdoaagphhjggbaaQMkQ
import Derived.Test.YtdoaagphhjggbaaQMkS
import Derived.Test.YtdoaagphhjggbaaQ2
section
namespace Go.Proofs.Ytdoaagphhjggbaa
open List renaming getD_eq_getElem?_getD → zd
open Go Go.Sx Go.RowKit Go.St
set_option maxRecDepth 100000
set_option maxHeartbeats 4000000
theorem quf (m : Md) (hm : MOk m) (s : Stt) (hf : qq m s = true) (hs : SSz s) (p : Nat) (hp : p < m.procs.length) (e : Ed) {pl : Int} (he : EdOk m.tree.length m.vars.length m.chans.length pl e) :
  Con Try.prog 51 [m.av, s.av, iv p, .agg e.cells] (.bool (canB m s p e)) := by
 have hso := que hm hf
 have hat : s.at_.length = m.procs.length := ((qaf m s).1 hf).1.1
 have hcl := hso.cl
 have hch := he.chn
 have hsv : e.act = 1 ∨ e.act = 2 ∨ e.act = 4 ∨ e.act = 5 → sval m p s e.expr = val m p s e.expr ∧ decide (e.expr < 0) = false := fun h => ⟨if_pos ⟨(he.ex h).1, (he.ex h).2, hf⟩, decide_eq_false (by have := he.ex h; omega)⟩
 have hnx : e.act = 0 ∨ e.act = 3 → decide (e.expr < 0) = true := fun h => decide_eq_true (by have := he.nex h; omega)
 have hac := he.act
 refine zK {} 300 Try.func51 (fun c0 rdb => ?_)
 (repeat' ((conv => whnf); first | refine zO ?_ | refine Ob.auto ?_ | refine zC 300 (qpu m hm p s hs e.expr) ?_ | refine zD 300 ?_ | (apply zB <;> intro hb <;> (try simp [-zd] at hb) <;> try (exfalso; omega))))
 all_goals refine Le.of_eq (congrArg AV.bool ?_)
 all_goals unfold canB qlen room
 ·have h : (s.at_.getD p 0 == e.frm) = false := by simpa [-zd] using hb
  rw [h]; rfl
 ·have h : (s.at_.getD p 0 == e.frm) = true := by simp [-zd, *]
  have h0 : e.act = 0 := by assumption
  rw [h, hnx (.inl h0), if_neg (by omega), if_neg (by omega), if_neg (by omega), if_neg (by omega)]; rfl
 ·have h : (s.at_.getD p 0 == e.frm) = true := by simp [-zd, *]
  have h0 : e.act = 3 := by assumption
  rw [h, hnx (.inr h0), if_neg (by omega), if_pos h0]; rfl
 ·have h0 : e.act = 2 := by assumption
  have h : decide (((s.chans.getD e.chn.toNat []).length : Int) < (m.chans.getD e.chn.toNat ch0).room) = false := decide_eq_false (by omega)
  rw [if_pos h0, h, Bool.and_false]
 ·have h : (s.at_.getD p 0 == e.frm) = true := by simp [-zd, *]
  have h0 : e.act = 2 := by assumption
  obtain ⟨h1, h2⟩ := hsv (by omega)
  have h3 : decide (((s.chans.getD e.chn.toNat []).length : Int) < (m.chans.getD e.chn.toNat ch0).room) = true := decide_eq_true (by omega)
  rw [h, h1, h2, if_pos h0, h3, Bool.and_true]; rfl
 ·have h : (s.at_.getD p 0 == e.frm) = true := by simp [-zd, *]
  have h0 : e.act = 4 := by assumption
  obtain ⟨h1, h2⟩ := hsv (by omega)
  rw [h, h1, h2, if_neg (by omega), if_neg (by omega), if_pos h0, if_neg (of_decide_eq_false h2)]; rfl
 ·have h : (s.at_.getD p 0 == e.frm) = true := by simp [-zd, *]
  have h0 : e.act = 5 := by assumption
  obtain ⟨h1, h2⟩ := hsv (by omega)
  rw [h, h1, h2, if_neg (by omega), if_neg (by omega), if_neg (by omega), if_pos h0, if_neg (of_decide_eq_false h2)]; rfl
 ·have h : (s.at_.getD p 0 == e.frm) = true := by simp [-zd, *]
  have h0 : e.act = 1 := by omega
  obtain ⟨h1, h2⟩ := hsv (by omega)
  rw [h, h1, h2, if_neg (by omega), if_neg (by omega), if_neg (by omega), if_neg (by omega), Bool.and_true]; rfl
theorem jbq (m : Md) (hm : MOk m) (s : Stt) (hcl : s.chans.length = m.chans.length) (c : Nat) (hc : c < m.chans.length) : Con Try.prog 79 [m.av, s.av, iv c] (.bool (qpr m s c)) := by
 refine zK {} 300 Try.func79 (fun c0 rdb => ?_)
 (repeat' ((conv => whnf); first | refine Ob.auto ?_ | fail))
 exact Le.refl _
theorem jbr (m : Md) (hm : MOk m) (s : Stt) (hcl : s.chans.length = m.chans.length) (c : Nat) (hc : c < m.chans.length) : Con Try.prog 80 [m.av, s.av, iv c] (.bool (qps m s c)) := by
 refine zK {} 300 Try.func80 (fun c0 rdb => ?_)
 (repeat' ((conv => whnf); first | refine zO ?_ | refine Ob.auto ?_ | refine zD 300 ?_ | fail))
 exact Le.refl _
theorem jbs (m : Md) (hm : MOk m) (s : Stt) (hf : qq m s = true) (hs : SSz s) (p : Nat) (hp : p < m.procs.length) {pl : Int} (he : ∀ e ∈ qp m p, EdOk m.tree.length m.vars.length m.chans.length pl e) (hn : (qp m p).length ≤ 40000) :
  Con Try.prog 82 [m.av, s.av, iv p] (.bool (quc m s p)) := by
 refine zK {} 300 Try.func82 (fun c0 rdb => ?_)
 (repeat' ((conv => whnf); first | refine Ob.auto ?_ | fail))
 ((conv => whnf); refine qx (fun _ => rfl) 300 1 (fun i : Nat => [(16, iv i), (6, .bool false)]) (fun _ => []) (fun i => i ≤ (qp m p).length ∧ ∀ j, j < i → canB m s p ((qp m p).getD j ed0) = false) (fun i => (qp m p).length - i) (0) (⟨Nat.zero_le _, fun j hj => absurd hj (Nat.not_lt_zero j)⟩) qa qa (fun _ => rfl) (by kernel_rfl) ?_; (conv => whnf))
 intro i hi
 (repeat' ((conv => whnf); first | refine Ob.auto ?_ | (apply zB <;> intro hb <;> (try simp [-zd] at hb) <;> try (exfalso; omega))))
 ·have hil : i < (qp m p).length := by assumption
  ((conv => whnf); refine qdd (fun _ => rfl) 300 (quf m hm s hf hs p hp ((qp m p).getD i ed0) (he _ (qo _ _ _ hil))) (by rfl) leA (by kernel_rfl) ?_)
  (repeat' ((conv => whnf); first | refine Ob.auto ?_ | (apply zB <;> intro hb <;> (try simp [-zd] at hb) <;> try (exfalso; omega))))
  ·exact Le.of_eq (congrArg AV.bool (List.any_eq_true.2 ⟨_, qo _ _ _ hil, by assumption⟩).symm)
  ·((conv => whnf); refine ⟨i + 1, ⟨hil, qbo hi.2 (by assumption)⟩, ⟨qa, qa⟩, ⟨qa, qa⟩, ?_⟩; (first | omega | (dsimp only; omega) | skip))
 ·have hil : (qp m p).length ≤ i := by assumption
  refine Le.of_eq (congrArg AV.bool ?_)
  unfold quc
  rw [Eq.comm, List.any_eq_false]
  intro e hme
  obtain ⟨j, hj, rfl⟩ := List.mem_iff_getElem.1 hme
  have := hi.2 j (by omega)
  rw [zd, List.getElem?_eq_getElem hj] at this
  simp only [Option.getD_some] at this
  rw [this]; decide
def qjf (m : Md) (s : Stt) (p e : Int) : Bool := qq m s && decide (0 ≤ p ∧ p < m.procs.length ∧ 0 ≤ e ∧ e < (qp m p.toNat).length) && canB m s p.toNat ((qp m p.toNat).getD e.toNat ed0)
theorem qug (m : Md) (hm : MOk m) (s : Stt) (hs : SSz s) (he : ∀ q ∈ m.procs, ∀ e ∈ q.edges, EdOk m.tree.length m.vars.length m.chans.length q.places e) (p e : Int) :
  Con Try.prog 24 [m.av, s.av, iv p, iv e] (.bool (qjf m s p e)) := by
 refine zK {} 300 Try.func24 (fun c0 rdb => ?_)
 (repeat' ((conv => whnf); first | refine Ob.auto ?_ | refine zC 300 (qcz m s hs) ?_ | (apply zB <;> intro hb <;> (try simp [-zd] at hb) <;> try (exfalso; omega))))
 ·refine Le.of_eq (congrArg AV.bool ?_)
  have hb' : ¬ (qq m s = true ∧ 0 ≤ p ∧ p < m.procs.length ∧ 0 ≤ e ∧ e < (qp m p.toNat).length) := fun ⟨h1, h2, h3, h4, h5⟩ => by
   have h5' : e < (m.procs.getD p.toNat pr0).edges.length := h5
   rcases hb with (((hb | hb) | hb) | hb) | hb
   ·rw [h1] at hb; cases hb
   all_goals omega
  unfold qjf
  by_cases h1 : qq m s = true
  ·rw [decide_eq_false (fun h => hb' ⟨h1, h⟩), Bool.and_false]; rfl
  ·rw [Bool.not_eq_true] at h1
   rw [h1]; rfl
 ·obtain ⟨⟨⟨⟨hf, h0⟩, h1⟩, h2⟩, h3⟩ := hb
  obtain ⟨P, rfl⟩ := Int.eq_ofNat_of_zero_le h0
  obtain ⟨E, rfl⟩ := Int.eq_ofNat_of_zero_le h2
  have hP : P < m.procs.length := by omega
  have h3' : (E : Int) < (qp m P).length := h3
  have hE : E < (qp m P).length := by omega
  (repeat' ((conv => whnf); first | refine zA ?_ | refine Ob.auto ?_ | (refine CallY.con (quf m hm s hf hs P hP ((qp m P).getD E ed0) (he _ (qo _ _ _ hP) _ (qo _ _ _ hE))) (by rfl) leA ?_) | (refine zQ 300 ?_) | fail))
  refine Le.of_eq (congrArg AV.bool ?_)
  unfold qjf
  rw [hf, Int.toNat_natCast, Int.toNat_natCast, decide_eq_true ⟨by omega, by omega, by omega, by omega⟩]
  rfl
end Go.Proofs.Ytdoaagphhjggbaa
end
section
namespace Go.St
open List renaming getD_eq_getElem?_getD → zd
open Go Go.Sx
theorem qhw {α : Type} (l : List α) (i j : Nat) (x d : α) : (l.set i x).getD j d = if j = i ∧ i < l.length then x else l.getD j d := by
 rw [zd, zd, List.getElem?_set]
 by_cases h : i = j
 ·subst h
  by_cases h2 : i < l.length
  ·rw [if_pos rfl, if_pos h2, if_pos ⟨rfl, h2⟩]; rfl
  ·rw [if_pos rfl, if_neg h2, if_neg (fun h => h2 h.2), List.getElem?_eq_none (by omega)]
 ·rw [if_neg h, if_neg (fun h2 => h h2.1.symm)]
section
variable {m : Md} {s : Stt}
theorem jnt (hf : qq m s = true) (p : Nat) (x : Int) (hx : 0 ≤ x ∧ x < (m.procs.getD p pr0).places) : qq m { s with at_ := s.at_.set p x } = true := by
 obtain ⟨h0, hA, hV, hC⟩ := (qaf m s).1 hf
 refine (qaf m _).2 ⟨⟨by simpa using h0.1, h0.2.1, h0.2.2.1, h0.2.2.2⟩, fun i hi => ?_, hV, hC⟩
 have hi' : i < s.at_.length := by simpa using hi
 have := hA i hi'
 unfold qlz at *
 simp only
 rw [qhw]
 split
 ·rename_i h; rw [h.1]; exact hx
 ·exact this
theorem jbt (hf : qq m s = true) (k : Nat) (x : Int) (hx : trim x (m.vars.getD k vr0).width = x) : qq m { s with vars := s.vars.set k x } = true := by
 obtain ⟨h0, hA, hV, hC⟩ := (qaf m s).1 hf
 refine (qaf m _).2 ⟨⟨h0.1, by simpa using h0.2.1, h0.2.2.1, h0.2.2.2⟩, hA, fun i hi => ?_, hC⟩
 have hi' : i < s.vars.length := by simpa using hi
 have := hV i hi'
 unfold qma at *
 simp only
 rw [qhw]
 split
 ·rename_i h; rw [h.1]; exact hx
 ·exact this
theorem jbu (hf : qq m s = true) (k : Nat) (c : List Int) (hc : (c.length : Int) ≤ (m.chans.getD k ch0).room) (hx : ∀ x ∈ c, trim x (m.chans.getD k ch0).width = x) : qq m { s with chans := s.chans.set k c } = true := by
 obtain ⟨h0, hA, hV, hC⟩ := (qaf m s).1 hf
 refine (qaf m _).2 ⟨⟨h0.1, h0.2.1, by simpa using h0.2.2.1, h0.2.2.2⟩, hA, hV, fun i hi => ?_⟩
 have hi' : i < s.chans.length := by simpa using hi
 have := hC i hi'
 unfold qir qkg at *
 simp only
 rw [qhw]
 split
 ·rename_i h; rw [h.1]; exact ⟨hc, fun q hq => hx _ (qo _ _ _ hq)⟩
 ·exact this
theorem qpv (hf : qq m s = true) (h : Int) (hh : -1 ≤ h ∧ h < m.procs.length) : qq m { s with holder := h } = true := by
 obtain ⟨h0, hA, hV, hC⟩ := (qaf m s).1 hf
 exact (qaf m _).2 ⟨⟨h0.1, h0.2.1, h0.2.2.1, hh⟩, hA, hV, hC⟩
theorem jbv (hf : qq m s = true) (k : Nat) : ∀ x ∈ s.chans.getD k [], trim x (m.chans.getD k ch0).width = x := by
 obtain ⟨h0, hA, hV, hC⟩ := (qaf m s).1 hf
 intro x hx
 by_cases hk : k < s.chans.length
 ·obtain ⟨q, hq, rfl⟩ := List.mem_iff_getElem.1 hx
  have := (hC k hk).2 q hq
  unfold qkg at this
  rw [zd (l := s.chans.getD k []), List.getElem?_eq_getElem hq] at this
  exact this
 ·rw [zd, List.getElem?_eq_none (by omega)] at hx
  simp at hx
theorem qnu (hf : qq m s = true) {k : Nat} (hk : k < m.chans.length) : ((s.chans.getD k []).length : Int) ≤ (m.chans.getD k ch0).room := by
 obtain ⟨h0, _, _, hC⟩ := (qaf m s).1 hf
 exact (hC k (by rw [h0.2.2.1]; exact hk)).1
theorem qbu (hM : ModOk m) (hf : qq m s = true) : SSz s := by
 have h0 := ((qaf m s).1 hf).1
 have hz := hM.sz
 refine ⟨by rw [h0.1]; omega, by rw [h0.2.1]; omega, by rw [h0.2.2.1]; omega, fun c hc => ?_⟩
 obtain ⟨i, hi, rfl⟩ := List.mem_iff_getElem.1 hc
 have hi' : i < m.chans.length := by rw [← h0.2.2.1]; exact hi
 have h1 := qnu hf hi'
 have h2 := hM.ok.chan _ (qo m.chans i ch0 hi')
 rw [zd, List.getElem?_eq_getElem hi] at h1
 simp only [Option.getD_some] at h1
 omega
def qbl (m : Md) (s : Stt) (v : Mv) : Bool :=
 if v.kind = 0 then decide (v.chn = 0 ∧ (s.holder = -1 ∨ s.holder = v.proc)) && (decide (0 ≤ v.proc ∧ v.proc < m.procs.length ∧ 0 ≤ v.edge ∧ v.edge < (qp m v.proc.toNat).length) && canB m s v.proc.toNat ((qp m v.proc.toNat).getD v.edge.toNat ed0))
 else if v.kind = 1 ∨ v.kind = 2 then decide (s.holder = -1 ∧ v.proc = 0 ∧ v.edge = 0 ∧ 0 ≤ v.chn ∧ v.chn < m.chans.length) && (if v.kind = 1 then qpr m s v.chn.toNat else qps m s v.chn.toNat)
 else false
theorem edOk (hM : ModOk m) {p : Nat} (hp : p < m.procs.length) {i : Nat} (hi : i < (qp m p).length) : EdOk m.tree.length m.vars.length m.chans.length (m.procs.getD p pr0).places ((qp m p).getD i ed0) :=
 (hM.pr _ (qo _ _ _ hp)).ed _ (qo _ _ _ hi)
theorem quh (hM : ModOk m) (hf : qq m s = true) {p : Nat} {e : Ed} (hto : 0 ≤ e.to ∧ e.to < (m.procs.getD p pr0).places) (hcn : e.act = 2 → qlen s e.chn < room m e.chn) : qq m (qab m s p e) = true := by
 have h0 := ((qaf m s).1 hf).1
 have ha := qpv (jnt hf p e.to hto) (-1) ⟨Int.le_refl _, by omega⟩
 unfold qab
 simp only
 split
 ·exact jbt ha _ _ (qub _ _)
 split
 ·rename_i h2
  have := hcn h2
  unfold qlen room at this
  refine jbu ha _ _ (by simp only [List.length_append, List.length_singleton]; omega) (fun x hx => ?_)
  rw [List.mem_append, List.mem_singleton] at hx
  rcases hx with hx | rfl
  ·exact jbv hf _ x hx
  ·exact qub _ _
 split
 ·have hb := jbt ha e.var.toNat (trim ((s.chans.getD e.chn.toNat []).getD 0 0) (m.vars.getD e.var.toNat vr0).width) (qub _ _)
  refine jbu hb _ _ ?_ (fun x hx => jbv hf _ x (List.mem_of_mem_drop hx))
  rw [List.length_drop]
  by_cases hk : e.chn.toNat < m.chans.length
  ·have := qnu hf hk; omega
  ·rw [zd (l := s.chans), List.getElem?_eq_none (by omega)]
   rw [zd, List.getElem?_eq_none (by omega)]
   simp [ch0]
 ·exact ha
theorem qui {p : Nat} {e : Ed} (h : canB m s p e = true) (h2 : e.act = 2) : qlen s e.chn < room m e.chn := by
 unfold canB at h
 rw [if_pos h2, Bool.and_eq_true] at h
 exact of_decide_eq_true h.2
def st0z : Stt := ⟨[], [], [], 0⟩
def doB (m : Md) (s : Stt) (v : Mv) : Bool := qq m s && qbl m s v
def qpw (m : Md) (s : Stt) (v : Mv) : Stt := if doB m s v = true then qdv m s v else st0z
end
end Go.St
end
