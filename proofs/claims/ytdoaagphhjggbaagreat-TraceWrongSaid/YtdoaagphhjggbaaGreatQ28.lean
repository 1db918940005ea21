/- Some texts of the library, one behind the other. -/
import Derived.Test.YtdoaagphhjggbaaGreatQMkR
import Derived.Test.YtdoaagphhjggbaaGreatQ2
section
namespace Go.St
open Go Go.Sx
theorem jqb {l : List Nd} (ht : Tree l) {k : Nat} (hk : k < l.length) (hk3 : (l.getD k nd0).kind = 3) {gl vs : List Vr} {ps : List Pr} {cs : List Ch} {seen : Nat} (hseen : seen ≤ gl.length) (hgl : gl.length ≤ 800)
  (hn : Need l k (seen + varsN l (l.getD k nd0)) cs.length) (h : VInv l.length cs.length gl vs ps) (hps : ps.length ≤ 4) (c : Nat) :
  VInv l.length cs.length gl (qdp l cs k seen (vs, ps) c).1 (qdp l cs k seen (vs, ps) c).2 ∧ (qdp l cs k seen (vs, ps) c).2.length = ps.length + 1 := by
 have hlen := ht.len
 have hkl := (ht.kidsLen hk).1
 have hvn := (qvd l (l.getD k nd0)).1
 obtain ⟨e, he⟩ := h.ex
 have hvl : vs.length = gl.length + e.length := by rw [he, List.length_append]
 have li := qvq (l := l) ((l.getD k nd0).kids.take (varsN l (l.getD k nd0))) 0 _ (jdc l vs seen (by omega) k c)
 rw [List.length_take, Nat.min_eq_left hvn, Nat.zero_add] at li
 unfold qdp
 simp only [Int.toNat_natCast]
 generalize hy : ((l.getD k nd0).kids.take (varsN l (l.getD k nd0))).foldl (qeb l) (qkj l vs seen k c, vs) = y at li ⊢
 have hyl := li.len
 obtain ⟨_, n, next, _, g', hg', hnn, hw, hks⟩ := jdd ht hk hk3
 have hok : PrOk l.length y.2.length cs.length y.1 := li.ok (by omega)
 have hyv : y.1.vars.length = seen + varsN l (l.getD k nd0) := by have := li.nm; omega
 have hg := qvm ht (T := l.length) (nv := y.2.length) (nc := cs.length) (st := qd l cs 20) (g := g') (it := k) k (qlv ht cs 20 g' hg') _ y.1 next n 0 1 hnn.1 hw hks hok (by rw [hyv]; exact hn) (by have := li.st.1; omega) (by have := li.st.1; omega)
 have hge := hg.ed
 have hgp := hg.pl
 rw [li.st.2.2] at hge
 rw [li.st.1] at hgp
 simp only [List.length_nil] at hge
 refine ⟨⟨?_, ?_, fun q hq => ?_⟩, by simp⟩
 ·obtain ⟨e', he'⟩ := li.ex
  exact ⟨e ++ e', by rw [he', he, List.append_assoc]⟩
 ·have := h.len
  simp only [List.length_append, List.length_singleton]; omega
 ·simp only [List.mem_append, List.mem_singleton] at hq
  rcases hq with hq | rfl
  ·have := h.ok q hq
   exact ⟨this.1.mono (by omega), this.2⟩
  ·exact ⟨hg.ok, by omega, by omega⟩
theorem qvr {l : List Nd} (ht : Tree l) {k : Nat} (hk : k < l.length) (hk3 : (l.getD k nd0).kind = 3) {gl vs : List Vr} {ps : List Pr} {cs : List Ch} {seen : Nat} (hseen : seen ≤ gl.length) (hgl : gl.length ≤ 800)
  (hn : Need l k (seen + varsN l (l.getD k nd0)) cs.length) (h : VInv l.length cs.length gl vs ps) : ∀ c : Nat, ps.length + c ≤ 5 →
  VInv l.length cs.length gl ((List.range c).foldl (qdp l cs k seen) (vs, ps)).1 ((List.range c).foldl (qdp l cs k seen) (vs, ps)).2 ∧ ((List.range c).foldl (qdp l cs k seen) (vs, ps)).2.length = ps.length + c
 | 0, _ => ⟨h, rfl⟩
 | c + 1, hc => by
  obtain ⟨h1, h2⟩ := qvr ht hk hk3 hseen hgl hn h c (by omega)
  rw [List.range_succ, List.foldl_append, List.foldl_cons, List.foldl_nil]
  have := jqb ht hk hk3 hseen hgl hn h1 (by omega) c
  exact ⟨this.1, by rw [this.2, h2]; omega⟩
def isK (l : List Nd) (a k : Int) : Bool := qq l k == a
structure IInv (l : List Nd) (pre : List Int) (M : Md) : Prop where
 tree : M.tree = l ∧ M.globals = 0 ∧ M.procs = []
 vars : M.vars.length = (pre.filter (isK l 2)).length
 chans : M.chans.length = (pre.filter (isK l 1)).length
 room : ∀ c ∈ M.chans, 0 ≤ c.room ∧ c.room ≤ 3
 safe : (∀ k ∈ M.safe, 0 ≤ k ∧ k < l.length) ∧ M.safe.length ≤ pre.length
theorem qvs {l : List Nd} (ht : Tree l) (hw : ∀ i, i < l.length → qbg l i = 0) : ∀ (rest pre : List Int) (M : Md), (∀ k ∈ rest, 0 ≤ k ∧ k < l.length) → IInv l pre M → IInv l (pre ++ rest) (rest.foldl (qgv l) M)
 | [], pre, M, _, h => by simpa using h
 | k :: rest, pre, M, hr, h => by
  have hk := hr k (List.mem_cons_self ..)
  rw [List.foldl_cons, show pre ++ k :: rest = (pre ++ [k]) ++ rest by simp]
  refine qvs ht hw rest (pre ++ [k]) _ (fun q hq => hr q (List.mem_cons_of_mem _ hq)) ?_
  have hln := ht.lens k.toNat (by omega)
  have hkd : qq l k = (l.getD k.toNat nd0).kind := rfl
  unfold qgv
  simp only
  have F : ∀ a, ((pre ++ [k]).filter (isK l a)).length = (pre.filter (isK l a)).length + (if qq l k = a then 1 else 0) := fun a => by
   rw [List.filter_append, List.length_append]
   by_cases e : qq l k = a
   ·rw [if_pos e]; simp [isK, e]
   ·rw [if_neg e]; simp [isK, e]
  split
  ·rename_i e
   have h1 := jpx (hw k.toNat (by omega)) e
   refine ⟨h.tree, by rw [F, if_neg (by omega)]; exact h.vars, by rw [F, if_pos (by omega)]; simp [h.chans], fun c hc => ?_, h.safe.1, by have := h.safe.2; simp; omega⟩
   simp only [List.mem_append, List.mem_singleton] at hc
   rcases hc with hc | rfl
   ·exact h.room c hc
   ·simp only; omega
  split
  ·rename_i e1 e
   exact ⟨h.tree, by rw [F, if_pos (by omega)]; simp [h.vars], by rw [F, if_neg (by omega)]; exact h.chans, h.room, h.safe.1, by have := h.safe.2; simp; omega⟩
  split
  ·rename_i e1 e2 e
   have h1 := hln.k1 (by omega)
   have h2 := ht.kids k.toNat (by omega) _ (ql _ 0 0 (by omega : 0 < (l.getD k.toNat nd0).kids.length))
   refine ⟨h.tree, by rw [F, if_neg (by omega)]; exact h.vars, by rw [F, if_neg (by omega)]; exact h.chans, h.room, fun q hq => ?_, by have := h.safe.2; simp; omega⟩
   simp only [List.mem_append, List.mem_singleton] at hq
   rcases hq with hq | rfl
   ·exact h.safe.1 q hq
   ·omega
  split
  ·exact ⟨h.tree, by rw [F, if_neg (by omega)]; exact h.vars, by rw [F, if_neg (by omega)]; exact h.chans, h.room, h.safe.1, by have := h.safe.2; simp; omega⟩
  ·exact ⟨h.tree, by rw [F, if_neg (by omega)]; exact h.vars, by rw [F, if_neg (by omega)]; exact h.chans, h.room, h.safe.1, by have := h.safe.2; simp; omega⟩
structure PInv (l : List Nd) (cs : List Ch) (gl : List Vr) (pre : List Int) (x : Nat × List Vr × List Pr) : Prop where
 seen : x.1 = (pre.filter (isK l 2)).length
 v : VInv l.length cs.length gl x.2.1 x.2.2
 cnt : ∀ m : Nat, m ≤ l.length → (∀ k ∈ pre, k < m) → (x.2.2.length : Int) ≤ sumF l 3 m
theorem jde {l : List Nd} (ht : Tree l) (hb : ∀ i, i < l.length → badF l i = false) {pre rest : List Int} {k : Nat} (hks : (l.getD 0 nd0).kids = pre ++ (k : Int) :: rest) (hk3 : (l.getD k nd0).kind = 3) {cs : List Ch}
  (hcs : cs.length = ((l.getD 0 nd0).kids.filter (isK l 1)).length) : Need l k ((pre.filter (isK l 2)).length + varsN l (l.getD k nd0)) cs.length := by
 have hlen := ht.len
 have hs := (ht.kidsLen (j := 0) (by omega)).2
 rw [hks] at hs
 refine jpz ht hb hk3 (fun h => ?_) (fun h => ?_)
 ·rcases h with ⟨i, h1, h2, h3⟩ | h
  ·rw [hks] at h1
   rcases List.mem_append.1 h1 with h1 | h1
   ·have : 0 < (pre.filter (isK l 2)).length := List.length_pos_iff_exists_mem.2 ⟨i, List.mem_filter.2 ⟨h1, by unfold isK qq; rw [Int.toNat_natCast, h2]; rfl⟩⟩
    omega
   ·rcases List.mem_cons.1 h1 with h1 | h1
    ·omega
    ·have := ((List.pairwise_append.1 hs).2.1)
     cases this with
     | cons h4 _ => have := h4 _ h1; omega
  ·omega
 ·obtain ⟨i, h1, h2⟩ := h
  have : 0 < ((l.getD 0 nd0).kids.filter (isK l 1)).length := List.length_pos_iff_exists_mem.2 ⟨i, List.mem_filter.2 ⟨h1, by unfold isK qq; rw [Int.toNat_natCast, h2]; rfl⟩⟩
  omega
theorem jqc {l : List Nd} (ht : Tree l) (hb : ∀ i, i < l.length → badF l i = false) (hw : ∀ i, i < l.length → qbg l i = 0) {cs : List Ch} {gl : List Vr} (hcs : cs.length = ((l.getD 0 nd0).kids.filter (isK l 1)).length) (hgl : gl.length = ((l.getD 0 nd0).kids.filter (isK l 2)).length)
  {rest pre : List Int} {k : Int} {x : Nat × List Vr × List Pr} (hks : (l.getD 0 nd0).kids = pre ++ k :: rest) (h : PInv l cs gl pre x) : PInv l cs gl (pre ++ [k]) (qcr l cs x k) := by
 have hlen := ht.len
 have hkm : k ∈ (l.getD 0 nd0).kids := by rw [hks]; simp
 have hk := ht.kids 0 (by omega) k hkm
 have hs := (ht.kidsLen (j := 0) (by omega)).2
 have hkl := (ht.kidsLen (j := 0) (by omega)).1
 have F : ((pre ++ [k]).filter (isK l 2)).length = (pre.filter (isK l 2)).length + (if qq l k = 2 then 1 else 0) := by
  rw [List.filter_append, List.length_append]
  by_cases e : qq l k = 2
  ·rw [if_pos e]; simp [isK, e]
  ·rw [if_neg e]; simp [isK, e]
 have hkd : qq l k = (l.getD k.toNat nd0).kind := rfl
 have hpk : ∀ q ∈ pre, q < k := fun q hq => by
  rw [hks] at hs
  exact (List.pairwise_append.1 hs).2.2 q hq k (List.mem_cons_self ..)
 have hgl2 : gl.length ≤ 800 := by rw [hgl]; exact Nat.le_trans (List.length_filter_le _ _) hkl
 unfold qcr
 simp only
 by_cases e3 : (l.getD k.toNat nd0).kind = 3
 ·have h1 := qvo (hw k.toNat (by omega)) e3
  have h2 := jcx ht (k := k.toNat) (by omega) e3 h1.2 h1.1
  have h3 := h.cnt k.toNat (by omega) (fun q hq => by have := hpk q hq; omega)
  rw [if_neg (by omega), if_pos e3]
  have hkk : ((k.toNat : Nat) : Int) = k := by omega
  have hseen : x.1 ≤ gl.length := by
   rw [h.seen, hgl, hks, List.filter_append, List.length_append]; omega
  have hnd := jde ht hb (k := k.toNat) (pre := pre) (rest := rest) (by rw [hkk]; exact hks) e3 hcs
  rw [← h.seen] at hnd
  have hci := qvr ht (k := k.toNat) (by omega) e3 hseen hgl2 hnd h.v ((l.getD k.toNat nd0).nums.getD 0 0).toNat (by omega)
  rw [hkk] at hci
  have hx2 : (x.2.1, x.2.2) = x.2 := rfl
  rw [hx2] at hci
  refine ⟨by rw [F, if_neg (by omega), ← h.seen]; rfl, hci.1, fun m hm hq => ?_⟩
  have h4 := hq k (by simp)
  have h5 := qrk ht 3 (k.toNat + 1) m (by omega) hm
  have h6 : ((List.foldl (qdp l cs k x.1) x.2 (List.range ((l.getD k.toNat nd0).nums.getD 0 0).toNat)).2.length : Int) = x.2.2.length + ((l.getD k.toNat nd0).nums.getD 0 0).toNat := by rw [hci.2]; push_cast; rfl
  rw [h6]
  omega
 ·rw [if_neg e3]
  refine ⟨?_, h.v, fun m hm hq => h.cnt m hm (fun q hq' => hq q (List.mem_append_left _ hq'))⟩
  rw [F, ← h.seen]
  simp only [hkd]
  split <;> rfl
theorem qvt {l : List Nd} (ht : Tree l) (hb : ∀ i, i < l.length → badF l i = false) (hw : ∀ i, i < l.length → qbg l i = 0) {cs : List Ch} {gl : List Vr} (hcs : cs.length = ((l.getD 0 nd0).kids.filter (isK l 1)).length) (hgl : gl.length = ((l.getD 0 nd0).kids.filter (isK l 2)).length) :
  ∀ i, i ≤ (l.getD 0 nd0).kids.length → PInv l cs gl ((l.getD 0 nd0).kids.take i) (((l.getD 0 nd0).kids.take i).foldl (qcr l cs) (0, gl, []))
 | 0, _ => ⟨rfl, ⟨⟨[], by simp⟩, by simp, fun q hq => by simp at hq⟩, fun m hm _ => by
   have := qrk ht 3 0 m (by omega) hm
   exact this⟩
 | i + 1, hi => by
  have ih := qvt ht hb hw hcs hgl i (by omega)
  have e : (l.getD 0 nd0).kids.take (i + 1) = (l.getD 0 nd0).kids.take i ++ [(l.getD 0 nd0).kids.getD i 0] := by
   generalize (l.getD 0 nd0).kids = K at hi
   rw [List.take_add_one, List.getElem?_eq_getElem hi, List.getD_eq_getElem?_getD, List.getElem?_eq_getElem hi]; rfl
  rw [e, List.foldl_append]
  refine jqc ht hb hw hcs hgl (rest := (l.getD 0 nd0).kids.drop (i + 1)) ?_ ih
  rw [← qki _ i 0 (by omega), List.take_append_drop]
theorem qvu {l : List Nd} (ht : Tree l) (hw : ∀ i, i < l.length → qbg l i = 0) : IInv l (l.getD 0 nd0).kids (qcs l) := by
 have hlen := ht.len
 have := qvs ht hw (l.getD 0 nd0).kids [] { tree := l } (fun k hk => by have := ht.kids 0 (by omega) k hk; omega) ⟨⟨rfl, rfl, rfl⟩, rfl, rfl, fun c hc => by simp at hc, fun k hk => by simp at hk, Nat.le_refl _⟩
 rw [List.nil_append] at this
 exact this
theorem jqd {l : List Nd} (ht : Tree l) (hc : (qbw l).1 = 0) : PInv l (qcs l).chans (qcs l).vars (l.getD 0 nd0).kids ((l.getD 0 nd0).kids.foldl (qcr l (qcs l).chans) (0, (qcs l).vars, [])) := by
 obtain ⟨hb, hw⟩ := qog hc
 have hi := qvu ht hw
 have := qvt ht hb hw (cs := (qcs l).chans) (gl := (qcs l).vars) hi.chans hi.vars (l.getD 0 nd0).kids.length (Nat.le_refl _)
 rw [List.take_length] at this
 exact this
theorem jqe {l : List Nd} (ht : Tree l) (i : Nat) (hi : i < l.length) : NdOk l.length i (l.getD i nd0) := by
 have hln := ht.lens i hi
 have hk := ht.kids i hi
 have K : ∀ q, q < (l.getD i nd0).kids.length → (i : Int) < (l.getD i nd0).kids.getD q 0 ∧ (l.getD i nd0).kids.getD q 0 < l.length := fun q hq => hk _ (ql _ q 0 hq)
 refine ⟨fun h => by have := hln.n1 (by omega); omega, fun h => by have := hln.w1 (by omega); omega, fun h => ?_, fun h => ?_⟩
 ·have := hln.k1 (by omega)
  exact ⟨by omega, K 0 (by omega)⟩
 ·have h1 := hln.k2 (by omega)
  have h2 := hln.n1 (by omega)
  have h3 := hln.sign h
  exact ⟨⟨by omega, by omega⟩, K 0 (by omega), K 1 (by omega), h3⟩
structure ModOk (m : Md) : Prop where
 ok : MOk m
 pr : ∀ q ∈ m.procs, PrOk m.tree.length m.vars.length m.chans.length q
 sz : m.vars.length ≤ 4000 ∧ m.procs.length ≤ 4 ∧ m.chans.length ≤ 800 ∧ m.safe.length ≤ 800 ∧ m.tree.length ≤ 800
 psz : ∀ q ∈ m.procs, q.edges.length ≤ 40000 ∧ q.places ≤ 40000
theorem jdf {l : List Nd} (ht : Tree l) (hc : (qbw l).1 = 0) : ModOk (qfb l) := by
 have hlen := ht.len
 obtain ⟨hb, hw⟩ := qog hc
 have hi := qvu ht hw
 have hp := jqd ht hc
 have hkl := (ht.kidsLen (j := 0) (by omega)).1
 have hv8 : (qcs l).vars.length ≤ 800 := by rw [hi.vars]; exact Nat.le_trans (List.length_filter_le _ _) hkl
 have hc8 : (qcs l).chans.length ≤ 800 := by rw [hi.chans]; exact Nat.le_trans (List.length_filter_le _ _) hkl
 have hcnt := hp.cnt l.length (Nat.le_refl _) (fun k hk => (ht.kids 0 (by omega) k hk).2)
 have hsum : sumF l 3 l.length ≤ 4 := by
  have key : ∀ j, j ≤ l.length → sumF l 3 j ≤ 4 := by
   intro j
   induction j with
   | zero => intro _; simp [sumF]
   | succ j ih =>
    intro hj
    have h1 := ih (by omega)
    by_cases e : (l.getD j nd0).kind = 3
    ·exact (qvo (hw j (by omega)) e).2
    ·rw [qvp]
     unfold qhx
     rw [if_neg e]
     split <;> exact h1
  exact key _ (Nat.le_refl _)
 generalize hx : (l.getD 0 nd0).kids.foldl (qcr l (qcs l).chans) (0, (qcs l).vars, []) = x at hp hcnt
 have hm : qfb l = { qcs l with globals := (qcs l).vars.length, vars := x.2.1, procs := x.2.2 } := by
  unfold qfb; simp only; rw [hx]
 obtain ⟨e, he⟩ := hp.v.ex
 have hvl := hp.v.len
 have hve : x.2.1.length = (qcs l).vars.length + e.length := by rw [he, List.length_append]
 have htr := hi.tree.1
 rw [hm]
 refine ⟨⟨?_, ?_, ?_, ?_, ?_, ?_, ?_, ?_⟩, ?_, ?_, ?_⟩
 ·intro i hi'; simp only [htr] at hi' ⊢; exact jqe ht i hi'
 ·simp only; omega
 ·intro q hq; have := (hp.v.ok q hq).1; exact ⟨by have := this.nm; omega, this.vr⟩
 ·simp only [htr]; have := hi.safe.2; omega
 ·intro q hq; have := hp.v.ok q hq; exact ⟨by have := this.1.nm; omega, by omega⟩
 ·intro k hk; simp only [htr]; exact hi.safe.1 k hk
 ·exact hi.room
 ·intro q hq; have := hp.v.ok q hq; exact ⟨by have := this.1.pl; omega, by omega⟩
 ·intro q hq; simp only [htr]; exact (hp.v.ok q hq).1
 ·simp only [htr]; have := hi.safe.2; omega
 ·intro q hq; exact (hp.v.ok q hq).2
end Go.St
end
section
namespace Go.St
open List renaming getD_eq_getElem?_getD → zd
open Go Go.Sx
structure CopyAt (l : List Nd) (cs : List Ch) (gl : List Vr) (k : Int) (seen : Nat) (us : List Vr) (qs : List Pr) : Prop where
 hk : 0 < k ∧ k < l.length
 hs : seen ≤ gl.length ∧ gl.length ≤ us.length ∧ us.length ≤ 4800
 hq : qs.length ≤ 5
 hn : Need l k (seen + varsN l (l.getD k.toNat nd0)) cs.length
theorem jqf {l : List Nd} (ht : Tree l) (hb : ∀ i, i < l.length → badF l i = false) (hw : ∀ i, i < l.length → qbg l i = 0) {cs : List Ch} {gl : List Vr} (hcs : cs.length = ((l.getD 0 nd0).kids.filter (isK l 1)).length) (hgl : gl.length = ((l.getD 0 nd0).kids.filter (isK l 2)).length)
  {i : Nat} (hi : i < (l.getD 0 nd0).kids.length) {seen : Nat} {vs : List Vr} {ps : List Pr} (h : PInv l cs gl ((l.getD 0 nd0).kids.take i) (seen, vs, ps)) (hk3 : qq l ((l.getD 0 nd0).kids.getD i 0) = 3) {c : Nat}
  (hc : c ≤ ((l.getD ((l.getD 0 nd0).kids.getD i 0).toNat nd0).nums.getD 0 0).toNat) {us : List Vr} {qs : List Pr} (hx : (us, qs) = (List.range c).foldl (qdp l cs ((l.getD 0 nd0).kids.getD i 0) seen) (vs, ps)) :
  CopyAt l cs gl ((l.getD 0 nd0).kids.getD i 0) seen us qs := by
 have hlen := ht.len
 have hks : (l.getD 0 nd0).kids = (l.getD 0 nd0).kids.take i ++ (l.getD 0 nd0).kids.getD i 0 :: (l.getD 0 nd0).kids.drop (i + 1) := by
  rw [← qki _ i 0 hi, List.take_append_drop]
 generalize (l.getD 0 nd0).kids.getD i 0 = k at *
 generalize (l.getD 0 nd0).kids.take i = pre at *
 generalize (l.getD 0 nd0).kids.drop (i + 1) = rest at *
 have hkm : k ∈ (l.getD 0 nd0).kids := by rw [hks]; simp
 have hk := ht.kids 0 (by omega) k hkm
 have hs := (ht.kidsLen (j := 0) (by omega)).2
 have hkl := (ht.kidsLen (j := 0) (by omega)).1
 have hkd : qq l k = (l.getD k.toNat nd0).kind := rfl
 have hpk : ∀ q ∈ pre, q < k := fun q hq => by
  rw [hks] at hs
  exact (List.pairwise_append.1 hs).2.2 q hq k (List.mem_cons_self ..)
 have hgl2 : gl.length ≤ 800 := by rw [hgl]; exact Nat.le_trans (List.length_filter_le _ _) hkl
 have h1 := qvo (hw k.toNat (by omega)) (by omega)
 have h2 := jcx ht (k := k.toNat) (by omega) (by omega) h1.2 h1.1
 have h3 := h.cnt k.toNat (by omega) (fun q hq => by have := hpk q hq; omega)
 have hkk : ((k.toNat : Nat) : Int) = k := by omega
 have hseen : seen ≤ gl.length := by
  have := h.seen
  simp only at this
  rw [this, hgl, hks, List.filter_append, List.length_append]; omega
 have hnd := jde ht hb (k := k.toNat) (pre := pre) (rest := rest) (by rw [hkk]; exact hks) (by omega) hcs
 have hsn := h.seen
 simp only at hsn h3
 rw [← hsn] at hnd
 have hv : VInv l.length cs.length gl vs ps := h.v
 have hci := qvr ht (k := k.toNat) (by omega) (by omega) hseen hgl2 hnd hv c (by omega)
 rw [hkk] at hci
 rw [← hx] at hci
 simp only at hci
 obtain ⟨e, he⟩ := hci.1.ex
 have hl := hci.1.len
 have hel : us.length = gl.length + e.length := by rw [he, List.length_append]
 rw [hkk] at hnd
 exact ⟨⟨by omega, hk.2⟩, ⟨hseen, by omega, by omega⟩, by omega, hnd⟩
def locX (l : List Nd) (us : List Vr) (seen : Nat) (K c : Int) (k : Nat) : Pr × List Vr := ((l.getD K.toNat nd0).kids.take k).foldl (qeb l) (qkj l us seen K c, us)
theorem jdg {l : List Nd} {us : List Vr} {seen : Nat} {K c : Int} {k : Nat} (h : k < (l.getD K.toNat nd0).kids.length) : locX l us seen K c (k + 1) = qeb l (locX l us seen K c k) ((l.getD K.toNat nd0).kids.getD k 0) := by
 unfold locX
 generalize (l.getD K.toNat nd0).kids = L at *
 rw [List.take_add_one, List.getElem?_eq_getElem h, zd, List.getElem?_eq_getElem h, List.foldl_append]; rfl
structure LocAt (l : List Nd) (us : List Vr) (seen : Nat) (K c : Int) (k : Nat) (x : Pr × List Vr) : Prop where
 st : x.1.name = (l.getD K.toNat nd0).words.getD 0 [] ∧ x.1.copy = c ∧ x.1.places = 2 ∧ x.1.rest = [false, true] ∧ x.1.edges = []
 nm : x.1.names.length = seen + k
 vr : x.1.vars.length = seen + k
 lc : x.1.locals.length = k
 len : x.2.length = us.length + k
theorem jdh {l : List Nd} {us : List Vr} {seen : Nat} {K c : Int} (hs : seen ≤ us.length) : ∀ k, k ≤ (l.getD K.toNat nd0).kids.length → LocAt l us seen K c k (locX l us seen K c k)
 | 0, _ => ⟨⟨rfl, rfl, rfl, rfl, rfl⟩, by
   show ((us.take seen).map (·.name)).length = seen + 0
   rw [List.length_map, List.length_take]; omega, by
   show ((List.range seen).map fun (i : Nat) => (i : Int)).length = seen + 0
   rw [List.length_map, List.length_range]; omega, rfl, rfl⟩
 | k + 1, h => by
  have ih := jdh (l := l) (K := K) (c := c) hs k (by omega)
  rw [jdg (by omega)]
  refine ⟨ih.st, ?_, ?_, ?_, ?_⟩
  ·show ((locX l us seen K c k).1.names ++ [_]).length = _
   rw [List.length_append, ih.nm]; rfl
  ·show ((locX l us seen K c k).1.vars ++ [_]).length = _
   rw [List.length_append, ih.vr]; rfl
  ·show ((locX l us seen K c k).1.locals ++ [_]).length = _
   rw [List.length_append, ih.lc]; rfl
  ·show ((locX l us seen K c k).2 ++ [_]).length = _
   rw [List.length_append, ih.len]; rfl
theorem jqg {l : List Nd} {cs : List Ch} {K : Int} {seen : Nat} {us : List Vr} {qs : List Pr} {c k : Nat} (hk : varsN l (l.getD K.toNat nd0) = k) :
  qdp l cs K seen (us, qs) c = ((locX l us seen K c k).2, qs ++ [qbc (qd l cs 20) K (locX l us seen K c k).1 ((l.getD K.toNat nd0).kids.drop k) 0 1]) := by
 subst hk; rfl
theorem jqh {l : List Nd} {us : List Vr} {seen : Nat} {K c : Int} (hs : seen ≤ us.length) {j : Nat} (hj : j < seen) : [AV.str (us.getD j vr0).name] = encL (fun s => [.str s]) [] (locX l us seen K c 0).1.names j := by
 show _ = [AV.str (((us.take seen).map (·.name)).getD j [])]
 rw [zd, zd, List.getElem?_map, List.getElem?_take, if_pos hj, List.getElem?_eq_getElem (by omega)]; rfl
theorem vars0 {l : List Nd} {us : List Vr} {seen : Nat} {K c : Int} {j : Nat} (hj : j < seen) : [iv (j : Int)] = encL (fun n => [iv n]) 0 (locX l us seen K c 0).1.vars j := by
 show _ = [iv (((List.range seen).map fun (i : Nat) => (i : Int)).getD j 0)]
 rw [zd, List.getElem?_map, List.getElem?_range hj]; rfl
theorem jqi {l : List Nd} {us : List Vr} {seen : Nat} {K c : Int} {k T nc : Nat} (hs : seen ≤ us.length) (hk : k ≤ (l.getD K.toNat nd0).kids.length) (hz : seen + k ≤ 100000) : PrOk T (locX l us seen K c k).2.length nc (locX l us seen K c k).1 := by
 have li := qvq (l := l) ((l.getD K.toNat nd0).kids.take k) 0 _ (jdc l us seen hs K c)
 rw [List.length_take, Nat.min_eq_left hk, Nat.zero_add] at li
 exact li.ok hz
theorem jqj {L : List Int} {k j : Nat} : encL (fun n => [iv n]) 0 L (k + j) = encL (fun n => [iv n]) 0 (L.drop k) j := by
 unfold encL
 rw [zd, zd, List.getElem?_drop]
end Go.St
end
