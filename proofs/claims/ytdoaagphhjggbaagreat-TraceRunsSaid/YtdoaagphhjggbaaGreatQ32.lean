/- Some texts of the library, one behind the other. -/
import Derived.Test.YtdoaagphhjggbaaGreatQ31
import Derived.Test.YtdoaagphhjggbaaGreatQ2
section
namespace Go.Proofs.YtdoaagphhjggbaaGreat
open Go Go.Sx Go.RowKit Go.St
set_option maxRecDepth 100000
set_option maxHeartbeats 4000000
def boxG (m : Md) (n : Nat) : SO := .box 94 (m.cells ++ [.own 1 0 0 n, .own 2 0 0 m.chans.length])
def rowE (E : List Ev) : SO := .row [] 70 6 0 E.length (encL Ev.cells {} E)
def rowW (m : Md) (E : List Ev) : SO := .row [3] 23 1 0 m.chans.length (fun k => [.own 3 k (jg E k) (waitOf E k).length])
def famW (m : Md) (E : List Ev) : SO := .fam 3 1 m.chans.length (fun k => jg E k) (fun k => (waitOf E k).length) (fun k => encL (fun n : Nat => [iv n]) 0 (waitOf E k))
theorem jsw (E : List Ev) (c : Int) : (waitOf E c).length ≤ E.length := by
 unfold waitOf jx
 rw [List.length_drop]
 have := List.length_filter_le (fun j => qce c (E.getD j {})) (List.range E.length)
 rw [List.length_range] at this
 omega
theorem jsx {L : List Nat} {x : Nat} {g : Nat → List AV} (hg : g 0 = [iv x]) {j : Nat} (hj : j < L.length + 1) : appF L.length (encL (fun n : Nat => [iv n]) 0 L) 1 g j = encL (fun n : Nat => [iv n]) 0 (L ++ [x]) j := by
 unfold appF encL
 rw [qip]
 by_cases hl : j < L.length
 ·rw [if_pos hl, if_pos hl]
 ·obtain rfl : j = L.length := by omega
  rw [if_neg hl, if_neg hl, if_pos rfl, if_pos (by omega), Nat.sub_self, hg]
theorem jfh (m : Md) (E : List Ev) (hE : E.length ≤ 1000000) (e : Ev) (c : Nat) (hc : c < m.chans.length) (hec : e.ch = c) (hp : qce c e = true) (hg : jg E c ≤ (jx E c).length) : Trip Tryz.prog 85 [.ptr 0 0, e.av] [boxG m E.length, rowE E, rowW m E, famW m E] (.tup []) [(0, boxG m (E.length + 1)), (1, rowE (E ++ [e])), (2, rowW m (E ++ [e])), (3, famW m (E ++ [e]))] 4 := by
 obtain ⟨k, mv, pr, ch, ms, fr⟩ := e
 simp only at hec
 subst hec
 unfold boxG rowE rowW famW
 refine zL {lit := true} 300 Tryz.func85 (fun c0 rdb mpb => ?_)
 (repeat' ((conv => whnf); first | refine zO ?_ | refine Ob.auto ?_ | refine zD 300 ?_ | refine Ob.intro ?_ ?_ | fail))
 ·have hwl := jsw E c
  refine ⟨hc, ⟨rfl, rfl⟩, ⟨rfl, rfl⟩, show (waitOf E c).length + 1 ≤ 9223372036854775807 by omega, ?_⟩
  refine Nat.le_trans (Nat.mul_le_mul_right _ (show (waitOf E c).length + 1 ≤ 4000001 by omega)) ?_
  dsimp only; decide +kernel
 ·exact ⟨⟨⟨rfl, rfl⟩, hc⟩, hc, by simp [upd], by simp [upd]⟩
 ·obtain ⟨e1, _, e2⟩ := qox hp hg
  refine ⟨Le.refl _, ⟨rfl, LeL.refl _⟩, qes Ev.cells {} rfl rfl, ⟨⟨rfl, rfl, rfl⟩, rfl, rfl, fun j hj => ?_⟩, qen (fun j hj => ?_) (fun j hj => ?_) (fun j q hj hq => ?_), trivial⟩
  ·refine LeL.of_eq (show (if j = c then [AV.own 3 c (jg E c) ((waitOf E c).length + 1)] else [AV.own 3 j (jg E j) (waitOf E j).length]) = [AV.own 3 j (jg (E ++ [⟨k, mv, pr, c, ms, fr⟩]) j) (waitOf (E ++ [⟨k, mv, pr, c, ms, fr⟩]) j).length] from ?_)
   by_cases h : j = c
   ·subst h; rw [if_pos rfl, e1, e2, List.length_append]; rfl
   ·obtain ⟨o1, _, o2⟩ := qef (E := E) (e := ⟨k, mv, pr, c, ms, fr⟩) (c := (j : Int)) (by simp only; omega)
    rw [if_neg h, o1, o2]
  ·show Go.Sx.upd _ _ _ j = _
   unfold Go.Sx.upd
   by_cases h : j = c
   ·subst h; exact (if_pos rfl).trans e1.symm
   ·obtain ⟨o1, _, o2⟩ := qef (E := E) (e := ⟨k, mv, pr, c, ms, fr⟩) (c := (j : Int)) (by simp only; omega)
    exact (if_neg h).trans o1.symm
  ·show Go.Sx.upd _ _ _ j = _
   unfold Go.Sx.upd
   by_cases h : j = c
   ·subst h; rw [e2, List.length_append]; exact if_pos rfl
   ·obtain ⟨o1, _, o2⟩ := qef (E := E) (e := ⟨k, mv, pr, c, ms, fr⟩) (c := (j : Int)) (by simp only; omega)
    rw [o2]; exact if_neg h
  ·have hq : q < Go.Sx.upd (fun k => (waitOf E k).length) c ((waitOf E c).length + 1) j := hq
   show Go.Sx.upd (α := Nat → List AV) _ _ _ j q = _
   unfold Go.Sx.upd at hq ⊢
   by_cases h : j = c
   ·subst h
    rw [if_pos rfl] at hq
    refine (congrFun (if_pos rfl) q).trans ?_
    rw [e2]
    exact jsx rfl hq
   ·obtain ⟨o1, _, o2⟩ := qef (E := E) (e := ⟨k, mv, pr, c, ms, fr⟩) (c := (j : Int)) (by simp only; omega)
    refine (congrFun (if_neg h) q).trans ?_
    rw [o2]
theorem jfi (m : Md) (E : List Ev) (hE : E.length ≤ 1000000) (k mv pr ms fr : Int) (c : Nat) (hc : c < m.chans.length) (hp : isTake c ⟨k, mv, pr, c, ms, (waitOf E c).getD 0 0⟩ = true) (hg : jg E c ≤ (jx E c).length) (hw : 0 < (waitOf E c).length) :
  Trip Tryz.prog 84 [.ptr 0 0, .agg [iv k, iv mv, iv pr, iv c, iv ms, iv fr]] [boxG m E.length, rowE E, rowW m E, famW m E] (.tup []) [(0, boxG m (E.length + 1)), (1, rowE (E ++ [⟨k, mv, pr, c, ms, (waitOf E c).getD 0 0⟩])), (2, rowW m (E ++ [⟨k, mv, pr, c, ms, (waitOf E c).getD 0 0⟩])), (3, famW m (E ++ [⟨k, mv, pr, c, ms, (waitOf E c).getD 0 0⟩]))] 4 := by
 unfold boxG rowE rowW famW
 refine zL {lit := true, cuts := [29]} 300 Tryz.func84 (fun c0 rdb mpb => ?_)
 (repeat' ((conv => whnf); first | refine zO ?_ | refine Ob.auto ?_ | refine zD 300 ?_ | refine Ob.intro ?_ ?_ | fail))
 ·exact ⟨hc, ⟨rfl, rfl⟩, by decide, show (1 : Int) ≤ ((waitOf E c).length : Int) by omega⟩
 ·exact ⟨⟨⟨rfl, rfl⟩, hc⟩, hc, by simp [upd], by simp [upd]⟩
 ·obtain ⟨e1, _, e2⟩ := qse hp hg hw
  refine ⟨Le.refl _, ⟨rfl, LeL.refl _⟩, qes Ev.cells {} rfl rfl, ⟨⟨rfl, rfl, rfl⟩, rfl, rfl, fun j hj => ?_⟩, qen (fun j hj => ?_) (fun j hj => ?_) (fun j q hj hq => ?_), trivial⟩
  ·refine LeL.of_eq (show (if j = c then [AV.own 3 c (jg E c + 1) ((waitOf E c).length - 1)] else [AV.own 3 j (jg E j) (waitOf E j).length]) = [AV.own 3 j (jg (E ++ [⟨k, mv, pr, c, ms, (waitOf E c).getD 0 0⟩]) j) (waitOf (E ++ [⟨k, mv, pr, c, ms, (waitOf E c).getD 0 0⟩]) j).length] from ?_)
   by_cases h : j = c
   ·subst h; rw [if_pos rfl, e1, e2, List.length_drop]
   ·obtain ⟨o1, _, o2⟩ := qef (E := E) (e := ⟨k, mv, pr, c, ms, (waitOf E c).getD 0 0⟩) (c := (j : Int)) (by simp only; omega)
    rw [if_neg h, o1, o2]
  ·show Go.Sx.upd _ _ _ j = _
   unfold Go.Sx.upd
   by_cases h : j = c
   ·subst h; exact (if_pos rfl).trans e1.symm
   ·obtain ⟨o1, _, o2⟩ := qef (E := E) (e := ⟨k, mv, pr, c, ms, (waitOf E c).getD 0 0⟩) (c := (j : Int)) (by simp only; omega)
    exact (if_neg h).trans o1.symm
  ·show Go.Sx.upd _ _ _ j = _
   unfold Go.Sx.upd
   by_cases h : j = c
   ·subst h; rw [e2, List.length_drop]; exact if_pos rfl
   ·obtain ⟨o1, _, o2⟩ := qef (E := E) (e := ⟨k, mv, pr, c, ms, (waitOf E c).getD 0 0⟩) (c := (j : Int)) (by simp only; omega)
    rw [o2]; exact if_neg h
  ·show Go.Sx.upd (α := Nat → List AV) _ _ _ j q = _
   unfold Go.Sx.upd
   by_cases h : j = c
   ·subst h
    refine (congrFun (if_pos rfl) q).trans ?_
    rw [e2]
    show encL (fun n : Nat => [iv n]) 0 (waitOf E j) (1 + q) = _
    unfold encL
    rw [List.getD_eq_getElem?_getD (l := List.drop 1 _), List.getElem?_drop, ← List.getD_eq_getElem?_getD]
   ·obtain ⟨o1, _, o2⟩ := qef (E := E) (e := ⟨k, mv, pr, c, ms, (waitOf E c).getD 0 0⟩) (c := (j : Int)) (by simp only; omega)
    refine (congrFun (if_neg h) q).trans ?_
    rw [o2]
end Go.Proofs.YtdoaagphhjggbaaGreat
end
section
namespace Go.Proofs.YtdoaagphhjggbaaGreat
open List renaming getD_eq_getElem?_getD → zd
open Go Go.Sx Go.RowKit Go.St
set_option maxRecDepth 100000
set_option maxHeartbeats 4000000
theorem jsy (m : Md) (s t : Stt) (E : List Ev) (hE : E.length ≤ 1000000) (i : Nat) (c : Nat) (hcl : s.chans.length = m.chans.length) (hW : Waits m s E) (hc : c < m.chans.length) (hq : 0 < (s.chans.getD c []).length) :
  Trip Tryz.prog 59 [.ptr 0 0, iv i, (⟨1, 0, 0, c⟩ : Mv).av, s.av, t.av] [boxG m E.length, rowE E, rowW m E, famW m E] (.tup []) [(0, boxG m (E.length + 1)), (1, rowE (E ++ [⟨2, i, -1, c, jz s c, jy E c⟩])), (2, rowW m (E ++ [⟨2, i, -1, c, jz s c, jy E c⟩])), (3, famW m (E ++ [⟨2, i, -1, c, jz s c, jy E c⟩]))] 4 := by
 obtain ⟨w1, w2⟩ := hW c hc
 rw [qop (by omega)]
 have ht := jfi m E hE 2 i (-1) (jz s c) 0 c hc (decide_eq_true ⟨rfl, .inr rfl⟩) w1 (by omega)
 unfold boxG rowE rowW famW at *
 refine zL {} 300 Tryz.func59 (fun c0 rdb mpb => ?_)
 (repeat' ((conv => whnf); first | (apply zB <;> intro hb <;> (try simp [-zd] at hb) <;> try (exfalso; omega))))
 ((conv => whnf); refine zQ 300 ?_)
 (repeat' ((conv => whnf); first | refine Ob.auto ?_ | fail))
 ((conv => whnf); refine CallY.trip [0, 1, 2, 3] (ht) (by kernel_rfl) leA qa (by exact qck ⟨fun _ _ => rfl, trivial⟩) (by exact qck ⟨fun _ _ => rfl, trivial⟩) ?_)
 (repeat' ((conv => whnf); first | refine zA ?_ | fail))
 exact ⟨Le.refl _, SoLe.refl _, SoLe.refl _, SoLe.refl _, SoLe.refl _, trivial⟩
theorem jsz (m : Md) (s t : Stt) (E : List Ev) (hE : E.length ≤ 1000000) (i : Nat) (c : Nat) (hcl : s.chans.length = m.chans.length) (hW : Waits m s E) (hc : c < m.chans.length) (hq : 0 < (s.chans.getD c []).length) :
  Trip Tryz.prog 59 [.ptr 0 0, iv i, (⟨2, 0, 0, c⟩ : Mv).av, s.av, t.av] [boxG m E.length, rowE E, rowW m E, famW m E] (.tup []) [(0, boxG m (E.length + 1)), (1, rowE (E ++ [⟨3, i, -1, c, jz s c, jy E c⟩])), (2, rowW m (E ++ [⟨3, i, -1, c, jz s c, jy E c⟩])), (3, famW m (E ++ [⟨3, i, -1, c, jz s c, jy E c⟩]))] 4 := by
 obtain ⟨w1, w2⟩ := hW c hc
 rw [qop (by omega)]
 have ht := jfh m E hE ⟨3, i, -1, c, jz s c, ((waitOf E c).getD 0 0 : Nat)⟩ c hc rfl (decide_eq_true ⟨rfl, .inr rfl⟩) w1
 unfold boxG rowE rowW famW at *
 refine zL {} 300 Tryz.func59 (fun c0 rdb mpb => ?_)
 (repeat' ((conv => whnf); first | (apply zB <;> intro hb <;> (try simp [-zd] at hb) <;> try (exfalso; omega))))
 ((conv => whnf); refine zQ 300 ?_)
 (repeat' ((conv => whnf); first | refine Ob.auto ?_ | fail))
 ((conv => whnf); refine CallY.trip [0, 1, 2, 3] (ht) (by kernel_rfl) leA qa (by exact qck ⟨fun _ _ => rfl, trivial⟩) (by exact qck ⟨fun _ _ => rfl, trivial⟩) ?_)
 (repeat' ((conv => whnf); first | refine zA ?_ | fail))
 exact ⟨Le.refl _, SoLe.refl _, SoLe.refl _, SoLe.refl _, SoLe.refl _, trivial⟩
theorem jta (m : Md) (s t : Stt) (E : List Ev) (hE : E.length ≤ 1000000) (i P e c : Nat) (hW : Waits m s E) (hP : P < m.procs.length) (he : e < (m.procs.getD P pr0).edges.length) (ha : ((m.procs.getD P pr0).edges.getD e ed0).act = 2) (hx : ((m.procs.getD P pr0).edges.getD e ed0).chn = c) (hc : c < m.chans.length) (htl : t.chans.length = m.chans.length) (hq : 0 < (t.chans.getD c []).length) (hqb : (t.chans.getD c []).length ≤ 1000000) :
  Trip Tryz.prog 59 [.ptr 0 0, iv i, (⟨0, P, e, 0⟩ : Mv).av, s.av, t.av] [boxG m E.length, rowE E, rowW m E, famW m E] (.tup []) [(0, boxG m (E.length + 1)), (1, rowE (E ++ [⟨0, i, P, c, qdg t c, -1⟩])), (2, rowW m (E ++ [⟨0, i, P, c, qdg t c, -1⟩])), (3, famW m (E ++ [⟨0, i, P, c, qdg t c, -1⟩]))] 4 := by
 obtain ⟨w1, w2⟩ := hW c hc
 have ht := jfh m E hE ⟨0, i, P, c, qdg t c, -1⟩ c hc rfl (decide_eq_true ⟨rfl, .inl rfl⟩) w1
 unfold boxG rowE rowW famW at *
 have hq' : 0 < (t.chans.getD ((m.procs.getD P pr0).edges.getD e ed0).chn.toNat []).length ∧ (t.chans.getD ((m.procs.getD P pr0).edges.getD e ed0).chn.toNat []).length ≤ 1000000 := by rw [hx]; exact ⟨hq, hqb⟩
 refine zL {} 300 Tryz.func59 (fun c0 rdb mpb => ?_)
 (repeat' ((conv => whnf); first | refine zO ?_ | refine Ob.auto ?_ | (refine Ob.intro (by (first | exact ⟨by omega, by omega⟩ | exact ⟨show (-9223372036854775808 : Int) ≤ ((t.chans.getD ((m.procs.getD P pr0).edges.getD e ed0).chn.toNat []).length : Int) - 1 by omega, show ((t.chans.getD ((m.procs.getD P pr0).edges.getD e ed0).chn.toNat []).length : Int) - 1 ≤ 9223372036854775807 by omega⟩ | exact ⟨show (0 : Int) ≤ ((t.chans.getD ((m.procs.getD P pr0).edges.getD e ed0).chn.toNat []).length : Int) - 1 by omega, show ((t.chans.getD ((m.procs.getD P pr0).edges.getD e ed0).chn.toNat []).length : Int) - 1 < ((t.chans.getD ((m.procs.getD P pr0).edges.getD e ed0).chn.toNat []).length : Int) by omega⟩)) ?_) | refine zD 300 ?_ | (apply zB <;> intro hb <;> (try simp [-zd] at hb) <;> try (exfalso; omega))))
 ((conv => whnf); refine qfr (fun _ => rfl) 300 [0, 1, 2, 3] (ht) (by kernel_rfl) ⟨Le.refl _, Le.agg ⟨Le.refl _, Le.refl _, Le.refl _, Le.of_eq (congrArg (AV.int _) hx), Le.of_eq (congrArg (AV.int _) ?_), Le.refl _, trivial⟩, trivial⟩ qa (by exact qck ⟨fun _ _ => rfl, trivial⟩) (by exact qck ⟨fun _ _ => rfl, trivial⟩) (by kernel_rfl) ?_)
 ·show (t.chans.getD ((m.procs.getD P pr0).edges.getD e ed0).chn.toNat []).getD (((t.chans.getD ((m.procs.getD P pr0).edges.getD e ed0).chn.toNat []).length : Int) - 1).toNat 0 = qdg t c
  unfold qdg
  rw [hx, show ∀ n : Nat, ((n : Int) - 1).toNat = n - 1 from fun n => by omega]
 exact ⟨Le.refl _, SoLe.refl _, SoLe.refl _, SoLe.refl _, SoLe.refl _, trivial⟩
theorem jtb (m : Md) (s t : Stt) (E : List Ev) (hE : E.length ≤ 1000000) (i P e c : Nat) (hW : Waits m s E) (hP : P < m.procs.length) (he : e < (m.procs.getD P pr0).edges.length) (ha : ((m.procs.getD P pr0).edges.getD e ed0).act = 3) (hx : ((m.procs.getD P pr0).edges.getD e ed0).chn = c) (hc : c < m.chans.length) (hcl : s.chans.length = m.chans.length) (hq : 0 < (s.chans.getD c []).length) :
  Trip Tryz.prog 59 [.ptr 0 0, iv i, (⟨0, P, e, 0⟩ : Mv).av, s.av, t.av] [boxG m E.length, rowE E, rowW m E, famW m E] (.tup []) [(0, boxG m (E.length + 1)), (1, rowE (E ++ [⟨1, i, P, c, jz s c, jy E c⟩])), (2, rowW m (E ++ [⟨1, i, P, c, jz s c, jy E c⟩])), (3, famW m (E ++ [⟨1, i, P, c, jz s c, jy E c⟩]))] 4 := by
 obtain ⟨w1, w2⟩ := hW c hc
 rw [qop (by omega)]
 have ht := jfi m E hE 1 i P (jz s c) 0 c hc (decide_eq_true ⟨rfl, .inl rfl⟩) w1 (by omega)
 unfold boxG rowE rowW famW at *
 have hq' : 0 < (s.chans.getD ((m.procs.getD P pr0).edges.getD e ed0).chn.toNat []).length := by rw [hx]; exact hq
 refine zL {} 300 Tryz.func59 (fun c0 rdb mpb => ?_)
 (repeat' ((conv => whnf); first | refine zO ?_ | refine Ob.auto ?_ | refine zD 300 ?_ | (apply zB <;> intro hb <;> (try simp [-zd] at hb) <;> try (exfalso; omega))))
 ((conv => whnf); refine qfr (fun _ => rfl) 300 [0, 1, 2, 3] (ht) (by kernel_rfl) ⟨Le.refl _, Le.agg ⟨Le.refl _, Le.refl _, Le.refl _, Le.of_eq (congrArg (AV.int _) hx), Le.of_eq (congrArg (AV.int _) ?_), Le.refl _, trivial⟩, trivial⟩ qa (by exact qck ⟨fun _ _ => rfl, trivial⟩) (by exact qck ⟨fun _ _ => rfl, trivial⟩) (by kernel_rfl) ?_)
 ·show (s.chans.getD ((m.procs.getD P pr0).edges.getD e ed0).chn.toNat []).getD 0 0 = jz s c
  unfold jz
  rw [hx]
 exact ⟨Le.refl _, SoLe.refl _, SoLe.refl _, SoLe.refl _, SoLe.refl _, trivial⟩
theorem jtc (m : Md) (s t : Stt) (E : List Ev) (i P e : Nat) (hP : P < m.procs.length) (he : e < (m.procs.getD P pr0).edges.length) (h2 : ((m.procs.getD P pr0).edges.getD e ed0).act ≠ 2) (h3 : ((m.procs.getD P pr0).edges.getD e ed0).act ≠ 3) :
  Trip Tryz.prog 59 [.ptr 0 0, iv i, (⟨0, P, e, 0⟩ : Mv).av, s.av, t.av] [boxG m E.length, rowE E, rowW m E, famW m E] (.tup []) [(0, boxG m E.length), (1, rowE E), (2, rowW m E), (3, famW m E)] 4 := by
 unfold boxG rowE rowW famW at *
 refine zL {} 300 Tryz.func59 (fun c0 rdb mpb => ?_)
 (repeat' ((conv => whnf); first | refine zO ?_ | refine Ob.auto ?_ | refine zD 300 ?_ | (apply zB <;> intro hb <;> (try simp [-zd] at hb) <;> try (exfalso; omega))))
 exact ⟨Le.refl _, SoLe.refl _, SoLe.refl _, SoLe.refl _, SoLe.refl _, trivial⟩
end Go.Proofs.YtdoaagphhjggbaaGreat
end
section
namespace Go.St
open Go Go.Sx
theorem qwx {m : Md} {s s' : Stt} {E : List Ev} {e : Ev} {c : Nat} {x : Int} (hW : Waits m s E) (hp : qce c e = true) (hl : s.chans.length = m.chans.length) (hc : c < m.chans.length) (hs : s'.chans = s.chans.set c (s.chans.getD c [] ++ [x])) : Waits m s' (E ++ [e]) := by
 intro k hk
 obtain ⟨w1, w2⟩ := hW k hk
 by_cases h : k = c
 ·subst h
  obtain ⟨e1, e2, e3⟩ := qox hp w1
  refine ⟨e2, ?_⟩
  rw [e3, hs, qdf, if_pos ⟨rfl, by omega⟩, List.length_append, List.length_append, w2]; rfl
 ·have hec : e.ch = c := (of_decide_eq_true hp).1
  obtain ⟨o1, o2, o3⟩ := qef (E := E) (e := e) (c := (k : Int)) (by rw [hec]; omega)
  refine ⟨by rw [o1, o2]; exact w1, ?_⟩
  rw [o3, w2, hs, qdf, if_neg (fun h' => h h'.1)]
theorem qwy {m : Md} {s s' : Stt} {E : List Ev} {e : Ev} {c : Nat} (hW : Waits m s E) (hp : isTake c e = true) (hl : s.chans.length = m.chans.length) (hc : c < m.chans.length) (hq : 0 < (s.chans.getD c []).length) (hs : s'.chans = s.chans.set c ((s.chans.getD c []).drop 1)) : Waits m s' (E ++ [e]) := by
 intro k hk
 obtain ⟨w1, w2⟩ := hW k hk
 by_cases h : k = c
 ·subst h
  obtain ⟨e1, e2, e3⟩ := qse hp w1 (by omega)
  refine ⟨e2, ?_⟩
  rw [e3, hs, qdf, if_pos ⟨rfl, by omega⟩, List.length_drop, List.length_drop, w2]
 ·have hec : e.ch = c := (of_decide_eq_true hp).1
  obtain ⟨o1, o2, o3⟩ := qef (E := E) (e := e) (c := (k : Int)) (by rw [hec]; omega)
  refine ⟨by rw [o1, o2]; exact w1, ?_⟩
  rw [o3, w2, hs, qdf, if_neg (fun h' => h h'.1)]
theorem jfj {m : Md} {s s' : Stt} {E : List Ev} (hW : Waits m s E) (hs : s'.chans = s.chans) : Waits m s' E := fun k hk => by
 rw [hs]; exact hW k hk
theorem qsf {m : Md} {s : Stt} {p : Nat} {e : Ed} (h : canB m s p e = true) (h3 : e.act = 3) : 0 < (s.chans.getD e.chn.toNat []).length := by
 unfold canB qlen at h
 rw [if_neg (by omega), if_pos h3, Bool.and_eq_true] at h
 have := of_decide_eq_true h.2
 omega
inductive MvC (m : Md) (s : Stt) : Mv → Prop
 | lose (c : Nat) (hc : c < m.chans.length) (hq : 0 < (s.chans.getD c []).length) : MvC m s ⟨1, 0, 0, c⟩
 | copy (c : Nat) (hc : c < m.chans.length) (hq : 0 < (s.chans.getD c []).length) : MvC m s ⟨2, 0, 0, c⟩
 | edge (P e : Nat) (hP : P < m.procs.length) (he : e < (edgesOf m P).length) (h : canB m s P ((edgesOf m P).getD e ed0) = true) : MvC m s ⟨0, P, e, 0⟩
theorem qoy {m : Md} {s : Stt} {v : Mv} (h : ji m s v = true) : MvC m s v := by
 obtain ⟨k, p, e, c⟩ := v
 unfold ji at h
 simp only at h
 split at h
 ·rename_i hk
  rw [Bool.and_eq_true, Bool.and_eq_true] at h
  obtain ⟨ha, hb, h4⟩ := h
  have h2 := of_decide_eq_true ha
  have h3 := of_decide_eq_true hb
  clear ha hb
  obtain ⟨P, rfl⟩ := Int.eq_ofNat_of_zero_le h3.1
  obtain ⟨E, rfl⟩ := Int.eq_ofNat_of_zero_le h3.2.2.1
  obtain ⟨rfl, _⟩ := h2
  subst hk
  exact .edge P E (by omega) (by have := h3.2.2.2; rw [Int.toNat_natCast] at this; omega) h4
 ·split at h
  ·rename_i hk
   rw [Bool.and_eq_true] at h
   obtain ⟨ha, h3⟩ := h
   have h2 := of_decide_eq_true ha
   clear ha
   obtain ⟨_, rfl, rfl, h0, h1⟩ := h2
   obtain ⟨C, rfl⟩ := Int.eq_ofNat_of_zero_le h0
   split at h3
   ·rename_i hk1
    subst hk1
    refine .lose C (by omega) ?_
    unfold qje qlen at h3
    simp only [Bool.and_eq_true, decide_eq_true_eq, Int.toNat_natCast] at h3
    omega
   ·obtain rfl : k = 2 := by omega
    refine .copy C (by omega) ?_
    unfold qid qlen at h3
    simp only [Bool.and_eq_true, decide_eq_true_eq, Int.toNat_natCast] at h3
    omega
  ·cases h
theorem qwz {m : Md} {s : Stt} {P e : Nat} : qv m s ⟨0, P, e, 0⟩ = qbn m s P ((edgesOf m P).getD e ed0) := rfl
theorem jfk {m : Md} (hM : ModOk m) {s : Stt} (hf : qg m s = true) {v : Mv} (h : ji m s v = true) {E : List Ev} (hW : Waits m s E) (i : Nat) : Waits m (qv m s v) (E ++ (evOf m s (qv m s v) i v E).toList) := by
 have hl := ((jc m s).1 hf).1.2.2.1
 cases qoy h with
 | lose c hc hq =>
  exact qwy (c := c) (e := ⟨2, i, -1, c, jz s c, jy E c⟩) hW (decide_eq_true ⟨rfl, .inr rfl⟩) hl hc hq rfl
 | copy c hc hq =>
  exact qwx (c := c) (e := ⟨3, i, -1, c, jz s c, jy E c⟩) hW (decide_eq_true ⟨rfl, .inr rfl⟩) hl hc rfl
 | edge P e hP he hcan =>
  have hed := edOk hM hP he
  have hte : edOf m ⟨0, P, e, 0⟩ = (edgesOf m P).getD e ed0 := rfl
  rw [qwz]
  unfold evOf
  rw [if_neg (by simp), if_neg (by simp), hte]
  have hq := qsf hcan
  generalize (edgesOf m P).getD e ed0 = d at hed hq ⊢
  by_cases h2 : d.act = 2
  ·have hch := hed.chn (.inl h2)
   obtain ⟨C, hC⟩ := Int.eq_ofNat_of_zero_le hch.1
   rw [if_pos h2, hC]
   refine qwx (c := C) (x := trim (if d.expr < 0 then 0 else (val m P s d.expr).1) (m.chans.getD C ch0).width) hW (decide_eq_true ⟨rfl, .inl rfl⟩) hl (by omega) ?_
   unfold qbn qn
   simp only
   rw [if_neg (by omega), if_pos h2, hC]; rfl
  ·by_cases h3 : d.act = 3
   ·have hch := hed.chn (.inr h3)
    obtain ⟨C, hC⟩ := Int.eq_ofNat_of_zero_le hch.1
    have hq := hq h3
    rw [if_neg h2, if_pos h3, hC]
    rw [hC] at hq
    refine qwy (c := C) hW (decide_eq_true ⟨rfl, .inl rfl⟩) hl (by omega) hq ?_
    unfold qbn qn
    simp only
    rw [if_neg (by omega), if_neg h2, if_pos h3, hC]; rfl
   ·rw [if_neg h2, if_neg h3]
    rw [show (Option.none : Option Ev).toList = [] from rfl, List.append_nil]
    refine jfj hW ?_
    unfold qbn qn
    simp only
    split
    ·rfl
    ·rfl
theorem jfl (m : Md) : Waits m (qq m) [] := fun k hk => by
 refine ⟨Nat.le_refl _, ?_⟩
 unfold qq
 rw [qiu _ _ _ _ hk]; rfl
theorem jfm {m : Md} (hM : ModOk m) (h0 : qg m (qq m) = true) {l : List Mv} : ∀ {i : Nat}, (∀ j, j < i → okN m l j = true) → Waits m (stN m l i) (evN m l i)
 | 0, _ => jfl m
 | i + 1, h => jfk hM (qer hM h0 (i := i) fun j hj => h j (by omega)) (h i (by omega)) (jfm hM h0 (i := i) fun j hj => h j (by omega)) i
end Go.St
end
