/- Some texts of the library, one behind the other. -/
import Derived.Test.YtdoaagphhjggbaaGreatQ32
import Derived.Test.YtdoaagphhjggbaaGreatQ33
import Derived.Test.YtdoaagphhjggbaaGreatQMkQ
import Derived.Test.YtdoaagphhjggbaaGreatQ29
import Derived.Test.YtdoaagphhjggbaaGreatQ2
section
/- Contracts of step: which edges are enabled. -/
namespace Go.Proofs.YtdoaagphhjggbaaGreat
open List renaming getD_eq_getElem?_getD → zd
open Go Go.Sx Go.RowKit Go.St
set_option maxRecDepth 100000
set_option maxHeartbeats 4000000
theorem qvd (m : Md) (hm : MOk m) (s : Stt) (hf : qp m s = true) (hs : SSz s) (p : Nat) (hp : p < m.procs.length) (e : Ed) {pl : Int} (he : EdOk m.tree.length m.vars.length m.chans.length pl e) :
  Con Tryz.prog 44 [m.av, s.av, iv p, .agg e.cells] (.bool (canB m s p e)) := by
 have hso := qlf hm hf
 have hat : s.at_.length = m.procs.length := ((jj m s).1 hf).1.1
 have hcl := hso.cl
 have hch := he.chn
 have hsv : e.act = 1 ∨ e.act = 2 ∨ e.act = 4 ∨ e.act = 5 → sval m p s e.expr = val m p s e.expr ∧ decide (e.expr < 0) = false := fun h => ⟨if_pos ⟨(he.ex h).1, (he.ex h).2, hf⟩, decide_eq_false (by have := he.ex h; omega)⟩
 have hnx : e.act = 0 ∨ e.act = 3 → decide (e.expr < 0) = true := fun h => decide_eq_true (by have := he.nex h; omega)
 have hac := he.act
 refine qc (T := tab Tryz.prog) (C := {}) 300 (fun _ => rfl) Tryz.func44 rfl (by kernel_rfl) (by kernel_rfl) (fun c0 rdb => ?_)
 (repeat' ((conv => whnf); first | refine zO ?_ | refine Ob.auto ?_ | refine zC 300 (qvc m hm p s hs e.expr) ?_ | refine zD 300 ?_ | (apply zB <;> intro hb <;> (try simp [-zd] at hb) <;> try (exfalso; omega))))
 all_goals refine Le.of_eq (congrArg AV.bool ?_)
 all_goals unfold canB qlen room
 ·have h : (s.at_.getD p 0 == e.frm) = false := by simpa [-zd] using hb
  rw [h]; rfl
 ·have h : (s.at_.getD p 0 == e.frm) = true := by simp [-zd, *]
  have h0 : e.act = 0 := by assumption
  rw [h, hnx (.inl h0), if_neg (by omega), if_neg (by omega), if_neg (by omega), if_neg (by omega)]; rfl
 ·have h : (s.at_.getD p 0 == e.frm) = true := by simp [-zd, *]
  have h0 : e.act = 3 := by assumption
  rw [h, hnx (.inr h0), if_neg (by omega), if_pos h0]; rfl
 ·have h0 : e.act = 2 := by assumption
  have h : decide (((s.chans.getD e.chn.toNat []).length : Int) < (m.chans.getD e.chn.toNat Ch.none).room) = false := decide_eq_false (by omega)
  rw [if_pos h0, h, Bool.and_false]
 ·have h : (s.at_.getD p 0 == e.frm) = true := by simp [-zd, *]
  have h0 : e.act = 2 := by assumption
  obtain ⟨h1, h2⟩ := hsv (by omega)
  have h3 : decide (((s.chans.getD e.chn.toNat []).length : Int) < (m.chans.getD e.chn.toNat Ch.none).room) = true := decide_eq_true (by omega)
  rw [h, h1, h2, if_pos h0, h3, Bool.and_true]; rfl
 ·have h : (s.at_.getD p 0 == e.frm) = true := by simp [-zd, *]
  have h0 : e.act = 4 := by assumption
  obtain ⟨h1, h2⟩ := hsv (by omega)
  rw [h, h1, h2, if_neg (by omega), if_neg (by omega), if_pos h0, if_neg (of_decide_eq_false h2)]; rfl
 ·have h : (s.at_.getD p 0 == e.frm) = true := by simp [-zd, *]
  have h0 : e.act = 5 := by assumption
  obtain ⟨h1, h2⟩ := hsv (by omega)
  rw [h, h1, h2, if_neg (by omega), if_neg (by omega), if_neg (by omega), if_pos h0, if_neg (of_decide_eq_false h2)]; rfl
 ·have h : (s.at_.getD p 0 == e.frm) = true := by simp [-zd, *]
  have h0 : e.act = 1 := by omega
  obtain ⟨h1, h2⟩ := hsv (by omega)
  rw [h, h1, h2, if_neg (by omega), if_neg (by omega), if_neg (by omega), if_neg (by omega), Bool.and_true]; rfl
theorem jcp (m : Md) (hm : MOk m) (s : Stt) (hcl : s.chans.length = m.chans.length) (c : Nat) (hc : c < m.chans.length) : Con Tryz.prog 45 [m.av, s.av, iv c] (.bool (qle m s c)) := by
 refine qc (T := tab Tryz.prog) (C := {}) 300 (fun _ => rfl) Tryz.func45 rfl (by kernel_rfl) (by kernel_rfl) (fun c0 rdb => ?_)
 (repeat' ((conv => whnf); first | refine Ob.auto ?_ | fail))
 exact Le.refl _
theorem jcq (m : Md) (hm : MOk m) (s : Stt) (hcl : s.chans.length = m.chans.length) (c : Nat) (hc : c < m.chans.length) : Con Tryz.prog 46 [m.av, s.av, iv c] (.bool (qju m s c)) := by
 refine qc (T := tab Tryz.prog) (C := {}) 300 (fun _ => rfl) Tryz.func46 rfl (by kernel_rfl) (by kernel_rfl) (fun c0 rdb => ?_)
 (repeat' ((conv => whnf); first | refine zO ?_ | refine Ob.auto ?_ | refine zD 300 ?_ | fail))
 exact Le.refl _
theorem jcr (m : Md) (hm : MOk m) (s : Stt) (hf : qp m s = true) (hs : SSz s) (p : Nat) (hp : p < m.procs.length) {pl : Int} (he : ∀ e ∈ qu m p, EdOk m.tree.length m.vars.length m.chans.length pl e) (hn : (qu m p).length ≤ 40000) :
  Con Tryz.prog 83 [m.av, s.av, iv p] (.bool (qfl m s p)) := by
 refine qc (T := tab Tryz.prog) (C := {}) 300 (fun _ => rfl) Tryz.func83 rfl (by kernel_rfl) (by kernel_rfl) (fun c0 rdb => ?_)
 (repeat' ((conv => whnf); first | refine Ob.auto ?_ | fail))
 ((conv => whnf); refine qt (fun _ => rfl) 300 1 (fun i : Nat => [(16, iv i), (6, .bool false)]) (fun _ => []) (fun i => i ≤ (qu m p).length ∧ ∀ j, j < i → canB m s p ((qu m p).getD j Ed.none) = false) (fun i => (qu m p).length - i) (0) (⟨Nat.zero_le _, fun j hj => absurd hj (Nat.not_lt_zero j)⟩) qa qa (fun _ => rfl) (by kernel_rfl) ?_; (conv => whnf))
 intro i hi
 (repeat' ((conv => whnf); first | refine Ob.auto ?_ | (apply zB <;> intro hb <;> (try simp [-zd] at hb) <;> try (exfalso; omega))))
 ·have hil : i < (qu m p).length := by assumption
  ((conv => whnf); refine qee (fun _ => rfl) 300 (qvd m hm s hf hs p hp ((qu m p).getD i Ed.none) (he _ (ql _ _ _ hil))) (by rfl) leA (by kernel_rfl) ?_)
  (repeat' ((conv => whnf); first | refine Ob.auto ?_ | (apply zB <;> intro hb <;> (try simp [-zd] at hb) <;> try (exfalso; omega))))
  ·exact Le.of_eq (congrArg AV.bool (List.any_eq_true.2 ⟨_, ql _ _ _ hil, by assumption⟩).symm)
  ·((conv => whnf); refine ⟨i + 1, ⟨hil, qaa hi.2 (by assumption)⟩, ⟨qa, qa⟩, ⟨qa, qa⟩, ?_⟩; (first | omega | (dsimp only; omega) | skip))
 ·have hil : (qu m p).length ≤ i := by assumption
  refine Le.of_eq (congrArg AV.bool ?_)
  unfold qfl
  rw [Eq.comm, List.any_eq_false]
  intro e hme
  obtain ⟨j, hj, rfl⟩ := List.mem_iff_getElem.1 hme
  have := hi.2 j (by omega)
  rw [zd, List.getElem?_eq_getElem hj] at this
  simp only [Option.getD_some] at this
  rw [this]; decide
def qlg (m : Md) (s : Stt) (p e : Int) : Bool := qp m s && decide (0 ≤ p ∧ p < m.procs.length ∧ 0 ≤ e ∧ e < (qu m p.toNat).length) && canB m s p.toNat ((qu m p.toNat).getD e.toNat Ed.none)
theorem jcs (m : Md) (hm : MOk m) (s : Stt) (hs : SSz s) (he : ∀ q ∈ m.procs, ∀ e ∈ q.edges, EdOk m.tree.length m.vars.length m.chans.length q.places e) (p e : Int) :
  Con Tryz.prog 21 [m.av, s.av, iv p, iv e] (.bool (qlg m s p e)) := by
 refine qc (T := tab Tryz.prog) (C := {}) 300 (fun _ => rfl) Tryz.func21 rfl (by kernel_rfl) (by kernel_rfl) (fun c0 rdb => ?_)
 (repeat' ((conv => whnf); first | refine Ob.auto ?_ | refine zC 300 (qdu m s hs) ?_ | (apply zB <;> intro hb <;> (try simp [-zd] at hb) <;> try (exfalso; omega))))
 ·refine Le.of_eq (congrArg AV.bool ?_)
  have hb' : ¬ (qp m s = true ∧ 0 ≤ p ∧ p < m.procs.length ∧ 0 ≤ e ∧ e < (qu m p.toNat).length) := fun ⟨h1, h2, h3, h4, h5⟩ => by
   have h5' : e < (m.procs.getD p.toNat Pr.none).edges.length := h5
   rcases hb with (((hb | hb) | hb) | hb) | hb
   ·rw [h1] at hb; cases hb
   all_goals omega
  unfold qlg
  by_cases h1 : qp m s = true
  ·rw [decide_eq_false (fun h => hb' ⟨h1, h⟩), Bool.and_false]; rfl
  ·rw [Bool.not_eq_true] at h1
   rw [h1]; rfl
 ·obtain ⟨⟨⟨⟨hf, h0⟩, h1⟩, h2⟩, h3⟩ := hb
  obtain ⟨P, rfl⟩ := Int.eq_ofNat_of_zero_le h0
  obtain ⟨E, rfl⟩ := Int.eq_ofNat_of_zero_le h2
  have hP : P < m.procs.length := by omega
  have h3' : (E : Int) < (qu m P).length := h3
  have hE : E < (qu m P).length := by omega
  (repeat' ((conv => whnf); first | refine zA ?_ | refine Ob.auto ?_ | (refine CallY.con (qvd m hm s hf hs P hP ((qu m P).getD E Ed.none) (he _ (ql _ _ _ hP) _ (ql _ _ _ hE))) (by rfl) leA ?_) | (refine zQ 300 ?_) | fail))
  refine Le.of_eq (congrArg AV.bool ?_)
  unfold qlg
  rw [hf, Int.toNat_natCast, Int.toNat_natCast, decide_eq_true ⟨by omega, by omega, by omega, by omega⟩]
  rfl
end Go.Proofs.YtdoaagphhjggbaaGreat
end
section
/- Steps in plain Lean: the moves of a state are those that are allowed, and what fits leads to what fits. Nothing of the program. -/
namespace Go.St
open List renaming getD_eq_getElem?_getD → zd
open Go Go.Sx
theorem qlh {α : Type} (l : List α) (i j : Nat) (x d : α) : (l.set i x).getD j d = if j = i ∧ i < l.length then x else l.getD j d := by
 rw [zd, zd, List.getElem?_set]
 by_cases h : i = j
 ·subst h
  by_cases h2 : i < l.length
  ·rw [if_pos rfl, if_pos h2, if_pos ⟨rfl, h2⟩]; rfl
  ·rw [if_pos rfl, if_neg h2, if_neg (fun h => h2 h.2), List.getElem?_eq_none (by omega)]
 ·rw [if_neg h, if_neg (fun h2 => h h2.1.symm)]
section
variable {m : Md} {s : Stt}
theorem jpf (hf : qp m s = true) (p : Nat) (x : Int) (hx : 0 ≤ x ∧ x < (m.procs.getD p Pr.none).places) : qp m { s with at_ := s.at_.set p x } = true := by
 obtain ⟨h0, hA, hV, hC⟩ := (jj m s).1 hf
 refine (jj m _).2 ⟨⟨by simpa using h0.1, h0.2.1, h0.2.2.1, h0.2.2.2⟩, fun i hi => ?_, hV, hC⟩
 have hi' : i < s.at_.length := by simpa using hi
 have := hA i hi'
 unfold qkq at *
 simp only
 rw [qlh]
 split
 ·rename_i h; rw [h.1]; exact hx
 ·exact this
theorem jct (hf : qp m s = true) (k : Nat) (x : Int) (hx : trim x (m.vars.getD k Vr.none).width = x) : qp m { s with vars := s.vars.set k x } = true := by
 obtain ⟨h0, hA, hV, hC⟩ := (jj m s).1 hf
 refine (jj m _).2 ⟨⟨h0.1, by simpa using h0.2.1, h0.2.2.1, h0.2.2.2⟩, hA, fun i hi => ?_, hC⟩
 have hi' : i < s.vars.length := by simpa using hi
 have := hV i hi'
 unfold qkr at *
 simp only
 rw [qlh]
 split
 ·rename_i h; rw [h.1]; exact hx
 ·exact this
theorem qqw (hf : qp m s = true) (k : Nat) (c : List Int) (hc : (c.length : Int) ≤ (m.chans.getD k Ch.none).room) (hx : ∀ x ∈ c, trim x (m.chans.getD k Ch.none).width = x) : qp m { s with chans := s.chans.set k c } = true := by
 obtain ⟨h0, hA, hV, hC⟩ := (jj m s).1 hf
 refine (jj m _).2 ⟨⟨h0.1, h0.2.1, by simpa using h0.2.2.1, h0.2.2.2⟩, hA, hV, fun i hi => ?_⟩
 have hi' : i < s.chans.length := by simpa using hi
 have := hC i hi'
 unfold qia qks at *
 simp only
 rw [qlh]
 split
 ·rename_i h; rw [h.1]; exact ⟨hc, fun q hq => hx _ (ql _ _ _ hq)⟩
 ·exact this
theorem qli (hf : qp m s = true) (h : Int) (hh : -1 ≤ h ∧ h < m.procs.length) : qp m { s with holder := h } = true := by
 obtain ⟨h0, hA, hV, hC⟩ := (jj m s).1 hf
 exact (jj m _).2 ⟨⟨h0.1, h0.2.1, h0.2.2.1, hh⟩, hA, hV, hC⟩
theorem qns (hf : qp m s = true) (k : Nat) : ∀ x ∈ s.chans.getD k [], trim x (m.chans.getD k Ch.none).width = x := by
 obtain ⟨h0, hA, hV, hC⟩ := (jj m s).1 hf
 intro x hx
 by_cases hk : k < s.chans.length
 ·obtain ⟨q, hq, rfl⟩ := List.mem_iff_getElem.1 hx
  have := (hC k hk).2 q hq
  unfold qks at this
  rw [zd (l := s.chans.getD k []), List.getElem?_eq_getElem hq] at this
  exact this
 ·rw [zd, List.getElem?_eq_none (by omega)] at hx
  simp at hx
theorem qlt (hf : qp m s = true) {k : Nat} (hk : k < m.chans.length) : ((s.chans.getD k []).length : Int) ≤ (m.chans.getD k Ch.none).room := by
 obtain ⟨h0, _, _, hC⟩ := (jj m s).1 hf
 exact (hC k (by rw [h0.2.2.1]; exact hk)).1
theorem qbw (hM : ModOk m) (hf : qp m s = true) : SSz s := by
 have h0 := ((jj m s).1 hf).1
 have hz := hM.sz
 refine ⟨by rw [h0.1]; omega, by rw [h0.2.1]; omega, by rw [h0.2.2.1]; omega, fun c hc => ?_⟩
 obtain ⟨i, hi, rfl⟩ := List.mem_iff_getElem.1 hc
 have hi' : i < m.chans.length := by rw [← h0.2.2.1]; exact hi
 have h1 := qlt hf hi'
 have h2 := hM.ok.chan _ (ql m.chans i Ch.none hi')
 rw [zd, List.getElem?_eq_getElem hi] at h1
 simp only [Option.getD_some] at h1
 omega
def jp (m : Md) (s : Stt) (v : Mv) : Bool :=
 if v.kind = 0 then decide (v.chn = 0 ∧ (s.holder = -1 ∨ s.holder = v.proc)) && (decide (0 ≤ v.proc ∧ v.proc < m.procs.length ∧ 0 ≤ v.edge ∧ v.edge < (qu m v.proc.toNat).length) && canB m s v.proc.toNat ((qu m v.proc.toNat).getD v.edge.toNat Ed.none))
 else if v.kind = 1 ∨ v.kind = 2 then decide (s.holder = -1 ∧ v.proc = 0 ∧ v.edge = 0 ∧ 0 ≤ v.chn ∧ v.chn < m.chans.length) && (if v.kind = 1 then qle m s v.chn.toNat else qju m s v.chn.toNat)
 else false
theorem mem_edgeMoves {p : Nat} {v : Mv} : v ∈ qik m s p ↔ v.kind = 0 ∧ v.proc = p ∧ v.chn = 0 ∧ (0 ≤ v.edge ∧ v.edge < (qu m p).length) ∧ canB m s p ((qu m p).getD v.edge.toNat Ed.none) = true := by
 unfold qik
 simp only [List.mem_map, List.mem_filter, List.mem_range]
 constructor
 ·rintro ⟨i, ⟨h1, h2⟩, rfl⟩
  exact ⟨rfl, rfl, rfl, ⟨Int.natCast_nonneg _, by simp only; omega⟩, h2⟩
 ·rintro ⟨h1, h2, h3, ⟨h4, h5⟩, h6⟩
  refine ⟨v.edge.toNat, ⟨by omega, h6⟩, ?_⟩
  cases v with
  | mk k p' e c => simp only at *; subst h1 h2 h3; rw [Int.toNat_of_nonneg h4]
theorem mem_chanMoves {c : Nat} {v : Mv} : v ∈ qfk m s c ↔ (v.proc = 0 ∧ v.edge = 0 ∧ v.chn = c) ∧ (v.kind = 1 ∧ qle m s c = true ∨ v.kind = 2 ∧ qju m s c = true) := by
 unfold qfk
 rw [List.mem_append]
 constructor
 ·rintro (h | h)
  ·split at h
   ·rw [List.mem_singleton] at h; subst h; exact ⟨⟨rfl, rfl, rfl⟩, .inl ⟨rfl, by assumption⟩⟩
   ·simp at h
  ·split at h
   ·rw [List.mem_singleton] at h; subst h; exact ⟨⟨rfl, rfl, rfl⟩, .inr ⟨rfl, by assumption⟩⟩
   ·simp at h
 ·rintro ⟨⟨h1, h2, h3⟩, h⟩
  cases v with
  | mk k p' e c' =>
   simp only at *
   subst h1 h2 h3
   rcases h with ⟨rfl, h⟩ | ⟨rfl, h⟩
   ·left; rw [if_pos h]; simp
   ·right; rw [if_pos h]; simp
theorem mem_movesF {v : Mv} : v ∈ qbv m s ↔ jp m s v = true := by
 unfold qbv
 rw [List.mem_append, List.mem_flatMap]
 unfold jp
 constructor
 ·rintro (⟨p, hp, h⟩ | h)
  ·rw [List.mem_range] at hp
   split at h
   ·simp at h
   ·rename_i hh
    obtain ⟨h1, h2, h3, h4, h5⟩ := mem_edgeMoves.1 h
    rw [if_pos h1, h2, Int.toNat_natCast, h5, decide_eq_true ⟨h3, by omega⟩, decide_eq_true ⟨Int.natCast_nonneg _, by omega, h4⟩]; rfl
  ·split at h
   ·rename_i hh
    rw [List.mem_flatMap] at h
    obtain ⟨c, hc, h⟩ := h
    rw [List.mem_range] at hc
    obtain ⟨⟨h1, h2, h3⟩, h4⟩ := mem_chanMoves.1 h
    rw [if_neg (by omega), if_pos (by omega), h3, Int.toNat_natCast, decide_eq_true ⟨hh, h1, h2, Int.natCast_nonneg _, by omega⟩, Bool.true_and]
    rcases h4 with ⟨h4, h5⟩ | ⟨h4, h5⟩
    ·rw [if_pos h4]; exact h5
    ·rw [if_neg (by omega)]; exact h5
   ·simp at h
 ·intro h
  split at h
  ·rename_i h1
   rw [Bool.and_eq_true, Bool.and_eq_true] at h
   obtain ⟨h2, h3, h4⟩ := h
   have h2 := of_decide_eq_true h2
   have h3 := of_decide_eq_true h3
   refine .inl ⟨v.proc.toNat, List.mem_range.2 (by omega), ?_⟩
   rw [if_neg (by omega)]
   exact mem_edgeMoves.2 ⟨h1, by omega, h2.1, h3.2.2, h4⟩
  ·split at h
   ·rename_i h0 h1
    rw [Bool.and_eq_true] at h
    obtain ⟨h2, h3⟩ := h
    have h2 := of_decide_eq_true h2
    right
    rw [if_pos h2.1, List.mem_flatMap]
    refine ⟨v.chn.toNat, List.mem_range.2 (by omega), mem_chanMoves.2 ⟨⟨h2.2.1, h2.2.2.1, by omega⟩, ?_⟩⟩
    split at h3
    ·exact .inl ⟨by assumption, h3⟩
    ·exact .inr ⟨by omega, h3⟩
   ·cases h
theorem edOk (hM : ModOk m) {p : Nat} (hp : p < m.procs.length) {i : Nat} (hi : i < (qu m p).length) : EdOk m.tree.length m.vars.length m.chans.length (m.procs.getD p Pr.none).places ((qu m p).getD i Ed.none) :=
 (hM.pr _ (ql _ _ _ hp)).ed _ (ql _ _ _ hi)
theorem qnt (hM : ModOk m) (hf : qp m s = true) {p : Nat} {e : Ed} (hto : 0 ≤ e.to ∧ e.to < (m.procs.getD p Pr.none).places) (hcn : e.act = 2 → qlen s e.chn < room m e.chn) : qp m (qm m s p e) = true := by
 have h0 := ((jj m s).1 hf).1
 have ha := qli (jpf hf p e.to hto) (-1) ⟨Int.le_refl _, by omega⟩
 unfold qm
 simp only
 split
 ·exact jct ha _ _ (qva _ _)
 split
 ·rename_i h2
  have := hcn h2
  unfold qlen room at this
  refine qqw ha _ _ (by simp only [List.length_append, List.length_singleton]; omega) (fun x hx => ?_)
  rw [List.mem_append, List.mem_singleton] at hx
  rcases hx with hx | rfl
  ·exact qns hf _ x hx
  ·exact qva _ _
 split
 ·have hb := jct ha e.var.toNat (trim ((s.chans.getD e.chn.toNat []).getD 0 0) (m.vars.getD e.var.toNat Vr.none).width) (qva _ _)
  refine qqw hb _ _ ?_ (fun x hx => qns hf _ x (List.mem_of_mem_drop hx))
  rw [List.length_drop]
  by_cases hk : e.chn.toNat < m.chans.length
  ·have := qlt hf hk; omega
  ·rw [zd (l := s.chans), List.getElem?_eq_none (by omega)]
   rw [zd, List.getElem?_eq_none (by omega)]
   simp [Ch.none]
 ·exact ha
theorem qnu {p : Nat} {e : Ed} (h : canB m s p e = true) (h2 : e.act = 2) : qlen s e.chn < room m e.chn := by
 unfold canB at h
 rw [if_pos h2, Bool.and_eq_true] at h
 exact of_decide_eq_true h.2
theorem jcu (hM : ModOk m) (hf : qp m s = true) {v : Mv} (hv : jp m s v = true) : qp m (qbl m s v) = true := by
 have h0 := ((jj m s).1 hf).1
 unfold jp at hv
 unfold qbl
 split at hv
 ·rename_i hk
  rw [Bool.and_eq_true, Bool.and_eq_true] at hv
  obtain ⟨h2, h3, h4⟩ := hv
  have h3 := of_decide_eq_true h3
  rw [if_neg (by omega), if_neg (by omega)]
  have hp : v.proc.toNat < m.procs.length := by omega
  have he := edOk hM hp (i := v.edge.toNat) (by omega)
  unfold qdi
  refine qli (qnt hM hf he.to (qnu h4)) _ ?_
  split <;> omega
 ·split at hv
  ·rw [Bool.and_eq_true] at hv
   obtain ⟨h2, h3⟩ := hv
   have h2 := of_decide_eq_true h2
   have hc : v.chn.toNat < m.chans.length := by omega
   have hl := qlt hf hc
   split
   ·refine qli (s := { s with chans := s.chans.set v.chn.toNat ((s.chans.getD v.chn.toNat []).drop 1) }) (qqw hf _ _ (by rw [List.length_drop]; omega) (fun x hx => qns hf _ x (List.mem_of_mem_drop hx))) (-1) ⟨Int.le_refl _, by omega⟩
   ·rename_i h1
    rw [if_neg h1] at h3
    rw [if_pos (by omega)]
    unfold qju qlen room at h3
    simp only [Bool.and_eq_true, decide_eq_true_eq, Int.toNat_natCast] at h3
    refine qli (s := { s with chans := s.chans.set v.chn.toNat (s.chans.getD v.chn.toNat [] ++ [(s.chans.getD v.chn.toNat []).getD 0 0]) }) (qqw hf _ _ (by simp only [List.length_append, List.length_singleton]; omega) (fun x hx => ?_)) (-1) ⟨Int.le_refl _, by omega⟩
    rw [List.mem_append, List.mem_singleton] at hx
    rcases hx with hx | rfl
    ·exact qns hf _ x hx
    ·exact qns hf _ _ (ql _ _ _ (by omega))
  ·cases hv
def Stt.zero : Stt := ⟨[], [], [], 0⟩
def doB (m : Md) (s : Stt) (v : Mv) : Bool := qp m s && jp m s v
def qnv (m : Md) (s : Stt) (v : Mv) : Stt := if doB m s v = true then qbl m s v else Stt.zero
end
end Go.St
end
