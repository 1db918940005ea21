/- Some texts of the library, one behind the other. -/
import Derived.Test.YtdoaagphhjggbaaGreatQ39
import Derived.Test.YtdoaagphhjggbaaGreatQ2
section
namespace Go.Proofs.YtdoaagphhjggbaaGreat
open List renaming getD_eq_getElem?_getD → zd
open Go Go.Sx Go.RowKit Go.St
set_option maxRecDepth 100000
set_option maxHeartbeats 4000000
theorem jrw (m : Md) (s t : Stt) (E : List Ev) (hE : E.length ≤ 1000000) (i : Nat) (c : Nat) (hcl : s.chans.length = m.chans.length) (hW : qdd m s E) (hc : c < m.chans.length) (hq : 0 < (s.chans.getD c []).length) :
  Trip Tryz.prog 59 [.ptr 0 0, iv i, (⟨1, 0, 0, c⟩ : Mv).av, s.av, t.av] [boxG m E.length, rowE E, rowW m E, famW m E] (.tup []) [(0, boxG m (E.length + 1)), (1, rowE (E ++ [⟨2, i, -1, c, qbf s c, qbq E c⟩])), (2, rowW m (E ++ [⟨2, i, -1, c, qbf s c, qbq E c⟩])), (3, famW m (E ++ [⟨2, i, -1, c, qbf s c, qbq E c⟩]))] 4 := by
 obtain ⟨w1, w2⟩ := hW c hc
 rw [qvt (by omega)]
 have ht := jel m E hE 2 i (-1) (qbf s c) 0 c hc (decide_eq_true ⟨rfl, .inr rfl⟩) w1 (by omega)
 unfold boxG rowE rowW famW at *
 refine zL {} 300 Tryz.func59 (fun c0 rdb mpb => ?_)
 (repeat' ((conv => whnf); first | (apply zB <;> intro hb <;> (try simp [-zd] at hb) <;> try (exfalso; omega))))
 ((conv => whnf); refine zQ 300 ?_)
 (repeat' ((conv => whnf); first | refine Ob.auto ?_ | fail))
 ((conv => whnf); refine CallY.trip [0, 1, 2, 3] (ht) (by kernel_rfl) leA qa (by exact qce ⟨fun _ _ => rfl, trivial⟩) (by exact qce ⟨fun _ _ => rfl, trivial⟩) ?_)
 (repeat' ((conv => whnf); first | refine zA ?_ | fail))
 exact ⟨Le.refl _, SoLe.refl _, SoLe.refl _, SoLe.refl _, SoLe.refl _, trivial⟩
theorem jrx (m : Md) (s t : Stt) (E : List Ev) (hE : E.length ≤ 1000000) (i : Nat) (c : Nat) (hcl : s.chans.length = m.chans.length) (hW : qdd m s E) (hc : c < m.chans.length) (hq : 0 < (s.chans.getD c []).length) :
  Trip Tryz.prog 59 [.ptr 0 0, iv i, (⟨2, 0, 0, c⟩ : Mv).av, s.av, t.av] [boxG m E.length, rowE E, rowW m E, famW m E] (.tup []) [(0, boxG m (E.length + 1)), (1, rowE (E ++ [⟨3, i, -1, c, qbf s c, qbq E c⟩])), (2, rowW m (E ++ [⟨3, i, -1, c, qbf s c, qbq E c⟩])), (3, famW m (E ++ [⟨3, i, -1, c, qbf s c, qbq E c⟩]))] 4 := by
 obtain ⟨w1, w2⟩ := hW c hc
 rw [qvt (by omega)]
 have ht := jek m E hE ⟨3, i, -1, c, qbf s c, ((ja E c).getD 0 0 : Nat)⟩ c hc rfl (decide_eq_true ⟨rfl, .inr rfl⟩) w1
 unfold boxG rowE rowW famW at *
 refine zL {} 300 Tryz.func59 (fun c0 rdb mpb => ?_)
 (repeat' ((conv => whnf); first | (apply zB <;> intro hb <;> (try simp [-zd] at hb) <;> try (exfalso; omega))))
 ((conv => whnf); refine zQ 300 ?_)
 (repeat' ((conv => whnf); first | refine Ob.auto ?_ | fail))
 ((conv => whnf); refine CallY.trip [0, 1, 2, 3] (ht) (by kernel_rfl) leA qa (by exact qce ⟨fun _ _ => rfl, trivial⟩) (by exact qce ⟨fun _ _ => rfl, trivial⟩) ?_)
 (repeat' ((conv => whnf); first | refine zA ?_ | fail))
 exact ⟨Le.refl _, SoLe.refl _, SoLe.refl _, SoLe.refl _, SoLe.refl _, trivial⟩
theorem jry (m : Md) (s t : Stt) (E : List Ev) (hE : E.length ≤ 1000000) (i P e c : Nat) (hW : qdd m s E) (hP : P < m.procs.length) (he : e < (m.procs.getD P pr0).edges.length) (ha : ((m.procs.getD P pr0).edges.getD e ed0).act = 2) (hx : ((m.procs.getD P pr0).edges.getD e ed0).chn = c) (hc : c < m.chans.length) (htl : t.chans.length = m.chans.length) (hq : 0 < (t.chans.getD c []).length) (hqb : (t.chans.getD c []).length ≤ 1000000) :
  Trip Tryz.prog 59 [.ptr 0 0, iv i, (⟨0, P, e, 0⟩ : Mv).av, s.av, t.av] [boxG m E.length, rowE E, rowW m E, famW m E] (.tup []) [(0, boxG m (E.length + 1)), (1, rowE (E ++ [⟨0, i, P, c, qej t c, -1⟩])), (2, rowW m (E ++ [⟨0, i, P, c, qej t c, -1⟩])), (3, famW m (E ++ [⟨0, i, P, c, qej t c, -1⟩]))] 4 := by
 obtain ⟨w1, w2⟩ := hW c hc
 have ht := jek m E hE ⟨0, i, P, c, qej t c, -1⟩ c hc rfl (decide_eq_true ⟨rfl, .inl rfl⟩) w1
 unfold boxG rowE rowW famW at *
 have hq' : 0 < (t.chans.getD ((m.procs.getD P pr0).edges.getD e ed0).chn.toNat []).length ∧ (t.chans.getD ((m.procs.getD P pr0).edges.getD e ed0).chn.toNat []).length ≤ 1000000 := by rw [hx]; exact ⟨hq, hqb⟩
 refine zL {} 300 Tryz.func59 (fun c0 rdb mpb => ?_)
 (repeat' ((conv => whnf); first | refine zO ?_ | refine Ob.auto ?_ | (refine Ob.intro (by (first | exact ⟨by omega, by omega⟩ | exact ⟨show (-9223372036854775808 : Int) ≤ ((t.chans.getD ((m.procs.getD P pr0).edges.getD e ed0).chn.toNat []).length : Int) - 1 by omega, show ((t.chans.getD ((m.procs.getD P pr0).edges.getD e ed0).chn.toNat []).length : Int) - 1 ≤ 9223372036854775807 by omega⟩ | exact ⟨show (0 : Int) ≤ ((t.chans.getD ((m.procs.getD P pr0).edges.getD e ed0).chn.toNat []).length : Int) - 1 by omega, show ((t.chans.getD ((m.procs.getD P pr0).edges.getD e ed0).chn.toNat []).length : Int) - 1 < ((t.chans.getD ((m.procs.getD P pr0).edges.getD e ed0).chn.toNat []).length : Int) by omega⟩)) ?_) | refine zD 300 ?_ | (apply zB <;> intro hb <;> (try simp [-zd] at hb) <;> try (exfalso; omega))))
 ((conv => whnf); refine qfh (fun _ => rfl) 300 [0, 1, 2, 3] (ht) (by kernel_rfl) ⟨Le.refl _, Le.agg ⟨Le.refl _, Le.refl _, Le.refl _, Le.of_eq (congrArg (AV.int _) hx), Le.of_eq (congrArg (AV.int _) ?_), Le.refl _, trivial⟩, trivial⟩ qa (by exact qce ⟨fun _ _ => rfl, trivial⟩) (by exact qce ⟨fun _ _ => rfl, trivial⟩) (by kernel_rfl) ?_)
 ·show (t.chans.getD ((m.procs.getD P pr0).edges.getD e ed0).chn.toNat []).getD (((t.chans.getD ((m.procs.getD P pr0).edges.getD e ed0).chn.toNat []).length : Int) - 1).toNat 0 = qej t c
  unfold qej
  rw [hx, show ∀ n : Nat, ((n : Int) - 1).toNat = n - 1 from fun n => by omega]
 exact ⟨Le.refl _, SoLe.refl _, SoLe.refl _, SoLe.refl _, SoLe.refl _, trivial⟩
theorem jrz (m : Md) (s t : Stt) (E : List Ev) (hE : E.length ≤ 1000000) (i P e c : Nat) (hW : qdd m s E) (hP : P < m.procs.length) (he : e < (m.procs.getD P pr0).edges.length) (ha : ((m.procs.getD P pr0).edges.getD e ed0).act = 3) (hx : ((m.procs.getD P pr0).edges.getD e ed0).chn = c) (hc : c < m.chans.length) (hcl : s.chans.length = m.chans.length) (hq : 0 < (s.chans.getD c []).length) :
  Trip Tryz.prog 59 [.ptr 0 0, iv i, (⟨0, P, e, 0⟩ : Mv).av, s.av, t.av] [boxG m E.length, rowE E, rowW m E, famW m E] (.tup []) [(0, boxG m (E.length + 1)), (1, rowE (E ++ [⟨1, i, P, c, qbf s c, qbq E c⟩])), (2, rowW m (E ++ [⟨1, i, P, c, qbf s c, qbq E c⟩])), (3, famW m (E ++ [⟨1, i, P, c, qbf s c, qbq E c⟩]))] 4 := by
 obtain ⟨w1, w2⟩ := hW c hc
 rw [qvt (by omega)]
 have ht := jel m E hE 1 i P (qbf s c) 0 c hc (decide_eq_true ⟨rfl, .inl rfl⟩) w1 (by omega)
 unfold boxG rowE rowW famW at *
 have hq' : 0 < (s.chans.getD ((m.procs.getD P pr0).edges.getD e ed0).chn.toNat []).length := by rw [hx]; exact hq
 refine zL {} 300 Tryz.func59 (fun c0 rdb mpb => ?_)
 (repeat' ((conv => whnf); first | refine zO ?_ | refine Ob.auto ?_ | refine zD 300 ?_ | (apply zB <;> intro hb <;> (try simp [-zd] at hb) <;> try (exfalso; omega))))
 ((conv => whnf); refine qfh (fun _ => rfl) 300 [0, 1, 2, 3] (ht) (by kernel_rfl) ⟨Le.refl _, Le.agg ⟨Le.refl _, Le.refl _, Le.refl _, Le.of_eq (congrArg (AV.int _) hx), Le.of_eq (congrArg (AV.int _) ?_), Le.refl _, trivial⟩, trivial⟩ qa (by exact qce ⟨fun _ _ => rfl, trivial⟩) (by exact qce ⟨fun _ _ => rfl, trivial⟩) (by kernel_rfl) ?_)
 ·show (s.chans.getD ((m.procs.getD P pr0).edges.getD e ed0).chn.toNat []).getD 0 0 = qbf s c
  unfold qbf
  rw [hx]
 exact ⟨Le.refl _, SoLe.refl _, SoLe.refl _, SoLe.refl _, SoLe.refl _, trivial⟩
theorem jsa (m : Md) (s t : Stt) (E : List Ev) (i P e : Nat) (hP : P < m.procs.length) (he : e < (m.procs.getD P pr0).edges.length) (h2 : ((m.procs.getD P pr0).edges.getD e ed0).act ≠ 2) (h3 : ((m.procs.getD P pr0).edges.getD e ed0).act ≠ 3) :
  Trip Tryz.prog 59 [.ptr 0 0, iv i, (⟨0, P, e, 0⟩ : Mv).av, s.av, t.av] [boxG m E.length, rowE E, rowW m E, famW m E] (.tup []) [(0, boxG m E.length), (1, rowE E), (2, rowW m E), (3, famW m E)] 4 := by
 unfold boxG rowE rowW famW at *
 refine zL {} 300 Tryz.func59 (fun c0 rdb mpb => ?_)
 (repeat' ((conv => whnf); first | refine zO ?_ | refine Ob.auto ?_ | refine zD 300 ?_ | (apply zB <;> intro hb <;> (try simp [-zd] at hb) <;> try (exfalso; omega))))
 exact ⟨Le.refl _, SoLe.refl _, SoLe.refl _, SoLe.refl _, SoLe.refl _, trivial⟩
end Go.Proofs.YtdoaagphhjggbaaGreat
end
section
namespace Go.St
open Go Go.Sx
theorem jem {m : Md} {s s' : Stt} {E : List Ev} {e : Ev} {c : Nat} {x : Int} (hW : qdd m s E) (hp : qgw c e = true) (hl : s.chans.length = m.chans.length) (hc : c < m.chans.length) (hs : s'.chans = s.chans.set c (s.chans.getD c [] ++ [x])) : qdd m s' (E ++ [e]) := by
 intro k hk
 obtain ⟨w1, w2⟩ := hW k hk
 by_cases h : k = c
 ·subst h
  obtain ⟨e1, e2, e3⟩ := qwd hp w1
  refine ⟨e2, ?_⟩
  rw [e3, hs, qgv, if_pos ⟨rfl, by omega⟩, List.length_append, List.length_append, w2]; rfl
 ·have hec : e.ch = c := (of_decide_eq_true hp).1
  obtain ⟨o1, o2, o3⟩ := qgy (E := E) (e := e) (c := (k : Int)) (by rw [hec]; omega)
  refine ⟨by rw [o1, o2]; exact w1, ?_⟩
  rw [o3, w2, hs, qgv, if_neg (fun h' => h h'.1)]
theorem jen {m : Md} {s s' : Stt} {E : List Ev} {e : Ev} {c : Nat} (hW : qdd m s E) (hp : qhx c e = true) (hl : s.chans.length = m.chans.length) (hc : c < m.chans.length) (hq : 0 < (s.chans.getD c []).length) (hs : s'.chans = s.chans.set c ((s.chans.getD c []).drop 1)) : qdd m s' (E ++ [e]) := by
 intro k hk
 obtain ⟨w1, w2⟩ := hW k hk
 by_cases h : k = c
 ·subst h
  obtain ⟨e1, e2, e3⟩ := jej hp w1 (by omega)
  refine ⟨e2, ?_⟩
  rw [e3, hs, qgv, if_pos ⟨rfl, by omega⟩, List.length_drop, List.length_drop, w2]
 ·have hec : e.ch = c := (of_decide_eq_true hp).1
  obtain ⟨o1, o2, o3⟩ := qgy (E := E) (e := e) (c := (k : Int)) (by rw [hec]; omega)
  refine ⟨by rw [o1, o2]; exact w1, ?_⟩
  rw [o3, w2, hs, qgv, if_neg (fun h' => h h'.1)]
theorem jsb {m : Md} {s s' : Stt} {E : List Ev} (hW : qdd m s E) (hs : s'.chans = s.chans) : qdd m s' E := fun k hk => by
 rw [hs]; exact hW k hk
theorem jeo {m : Md} {s : Stt} {p : Nat} {e : Ed} (h : canB m s p e = true) (h3 : e.act = 3) : 0 < (s.chans.getD e.chn.toNat []).length := by
 unfold canB qlen at h
 rw [if_neg (by omega), if_pos h3, Bool.and_eq_true] at h
 have := of_decide_eq_true h.2
 omega
inductive MvC (m : Md) (s : Stt) : Mv → Prop
 | lose (c : Nat) (hc : c < m.chans.length) (hq : 0 < (s.chans.getD c []).length) : MvC m s ⟨1, 0, 0, c⟩
 | copy (c : Nat) (hc : c < m.chans.length) (hq : 0 < (s.chans.getD c []).length) : MvC m s ⟨2, 0, 0, c⟩
 | edge (P e : Nat) (hP : P < m.procs.length) (he : e < (edgesOf m P).length) (h : canB m s P ((edgesOf m P).getD e ed0) = true) : MvC m s ⟨0, P, e, 0⟩
theorem jep {m : Md} {s : Stt} {v : Mv} (h : jm m s v = true) : MvC m s v := by
 obtain ⟨k, p, e, c⟩ := v
 unfold jm at h
 simp only at h
 split at h
 ·rename_i hk
  rw [Bool.and_eq_true, Bool.and_eq_true] at h
  obtain ⟨ha, hb, h4⟩ := h
  have h2 := of_decide_eq_true ha
  have h3 := of_decide_eq_true hb
  clear ha hb
  obtain ⟨P, rfl⟩ := Int.eq_ofNat_of_zero_le h3.1
  obtain ⟨E, rfl⟩ := Int.eq_ofNat_of_zero_le h3.2.2.1
  obtain ⟨rfl, _⟩ := h2
  subst hk
  exact .edge P E (by omega) (by have := h3.2.2.2; rw [Int.toNat_natCast] at this; omega) h4
 ·split at h
  ·rename_i hk
   rw [Bool.and_eq_true] at h
   obtain ⟨ha, h3⟩ := h
   have h2 := of_decide_eq_true ha
   clear ha
   obtain ⟨_, rfl, rfl, h0, h1⟩ := h2
   obtain ⟨C, rfl⟩ := Int.eq_ofNat_of_zero_le h0
   split at h3
   ·rename_i hk1
    subst hk1
    refine .lose C (by omega) ?_
    unfold qix qlen at h3
    simp only [Bool.and_eq_true, decide_eq_true_eq, Int.toNat_natCast] at h3
    omega
   ·obtain rfl : k = 2 := by omega
    refine .copy C (by omega) ?_
    unfold qhv qlen at h3
    simp only [Bool.and_eq_true, decide_eq_true_eq, Int.toNat_natCast] at h3
    omega
  ·cases h
theorem jsc {m : Md} {s : Stt} {P e : Nat} : qt m s ⟨0, P, e, 0⟩ = qcs m s P ((edgesOf m P).getD e ed0) := rfl
theorem jeq {m : Md} (hM : ModOk m) {s : Stt} (hf : qn m s = true) {v : Mv} (h : jm m s v = true) {E : List Ev} (hW : qdd m s E) (i : Nat) : qdd m (qt m s v) (E ++ (evOf m s (qt m s v) i v E).toList) := by
 have hl := ((jj m s).1 hf).1.2.2.1
 cases jep h with
 | lose c hc hq =>
  exact jen (c := c) (e := ⟨2, i, -1, c, qbf s c, qbq E c⟩) hW (decide_eq_true ⟨rfl, .inr rfl⟩) hl hc hq rfl
 | copy c hc hq =>
  exact jem (c := c) (e := ⟨3, i, -1, c, qbf s c, qbq E c⟩) hW (decide_eq_true ⟨rfl, .inr rfl⟩) hl hc rfl
 | edge P e hP he hcan =>
  have hed := edOk hM hP he
  have hte : edOf m ⟨0, P, e, 0⟩ = (edgesOf m P).getD e ed0 := rfl
  rw [jsc]
  unfold evOf
  rw [if_neg (by simp), if_neg (by simp), hte]
  have hq := jeo hcan
  generalize (edgesOf m P).getD e ed0 = d at hed hq ⊢
  by_cases h2 : d.act = 2
  ·have hch := hed.chn (.inl h2)
   obtain ⟨C, hC⟩ := Int.eq_ofNat_of_zero_le hch.1
   rw [if_pos h2, hC]
   refine jem (c := C) (x := trim (if d.expr < 0 then 0 else (val m P s d.expr).1) (m.chans.getD C ch0).width) hW (decide_eq_true ⟨rfl, .inl rfl⟩) hl (by omega) ?_
   unfold qcs ql
   simp only
   rw [if_neg (by omega), if_pos h2, hC]; rfl
  ·by_cases h3 : d.act = 3
   ·have hch := hed.chn (.inr h3)
    obtain ⟨C, hC⟩ := Int.eq_ofNat_of_zero_le hch.1
    have hq := hq h3
    rw [if_neg h2, if_pos h3, hC]
    rw [hC] at hq
    refine jen (c := C) hW (decide_eq_true ⟨rfl, .inl rfl⟩) hl (by omega) hq ?_
    unfold qcs ql
    simp only
    rw [if_neg (by omega), if_neg h2, if_pos h3, hC]; rfl
   ·rw [if_neg h2, if_neg h3]
    rw [show (Option.none : Option Ev).toList = [] from rfl, List.append_nil]
    refine jsb hW ?_
    unfold qcs ql
    simp only
    split
    ·rfl
    ·rfl
theorem jsd (m : Md) : qdd m (qx m) [] := fun k hk => by
 refine ⟨Nat.le_refl _, ?_⟩
 unfold qx
 rw [qjv _ _ _ _ hk]; rfl
theorem jer {m : Md} (hM : ModOk m) (h0 : qn m (qx m) = true) {l : List Mv} : ∀ {i : Nat}, (∀ j, j < i → okN m l j = true) → qdd m (stN m l i) (evN m l i)
 | 0, _ => jsd m
 | i + 1, h => jeq hM (qki hM h0 (i := i) fun j hj => h j (by omega)) (h i (by omega)) (jer hM h0 (i := i) fun j hj => h j (by omega)) i
end Go.St
end
section
namespace Go.Proofs.YtdoaagphhjggbaaGreat
open Go Go.Sx Go.RowKit Go.St
set_option maxRecDepth 100000
set_option maxHeartbeats 4000000
theorem jse (m : Md) (hM : ModOk m) (s : Stt) (hf : qn m s = true) (v : Mv) (h : jm m s v = true) (E : List Ev) (hE : E.length ≤ 1000000) (i : Nat) (hW : qdd m s E) :
  Trip Tryz.prog 59 [.ptr 0 0, iv i, v.av, s.av, (qt m s v).av] [boxG m E.length, rowE E, rowW m E, famW m E] (.tup [])
   [(0, boxG m (E ++ (evOf m s (qt m s v) i v E).toList).length), (1, rowE (E ++ (evOf m s (qt m s v) i v E).toList)), (2, rowW m (E ++ (evOf m s (qt m s v) i v E).toList)), (3, famW m (E ++ (evOf m s (qt m s v) i v E).toList))] 4 := by
 have hl := ((jj m s).1 hf).1.2.2.1
 have hft := jdi hM hf h
 have htl := ((jj m _).1 hft).1.2.2.1
 have hW' := jeq hM hf h hW i
 cases jep h with
 | lose c hc hq =>
  have := jrw m s (qt m s ⟨1, 0, 0, c⟩) E hE i c hl hW hc hq
  rw [show (evOf m s (qt m s ⟨1, 0, 0, c⟩) i ⟨1, 0, 0, c⟩ E).toList = [⟨2, i, -1, c, qbf s c, qbq E c⟩] from rfl, List.length_append]
  exact this
 | copy c hc hq =>
  have := jrx m s (qt m s ⟨2, 0, 0, c⟩) E hE i c hl hW hc hq
  rw [show (evOf m s (qt m s ⟨2, 0, 0, c⟩) i ⟨2, 0, 0, c⟩ E).toList = [⟨3, i, -1, c, qbf s c, qbq E c⟩] from rfl, List.length_append]
  exact this
 | edge P e hP he hcan =>
  have hed := edOk hM hP he
  have hq := jeo hcan
  have hte : edOf m ⟨0, P, e, 0⟩ = (edgesOf m P).getD e ed0 := rfl
  by_cases h2 : ((edgesOf m P).getD e ed0).act = 2
  ·have hch := hed.chn (.inl h2)
   obtain ⟨C, hC⟩ := Int.eq_ofNat_of_zero_le hch.1
   have hC' : C < m.chans.length := by omega
   have hev : evOf m s (qt m s ⟨0, P, e, 0⟩) i ⟨0, P, e, 0⟩ E = some ⟨0, i, P, C, qej (qt m s ⟨0, P, e, 0⟩) C, -1⟩ := by
    unfold evOf
    rw [if_neg (by simp), if_neg (by simp), hte, if_pos h2, hC]
   have hss := qbz hM hft
   have hlt := hss.l _ (qk _ C [] (by omega))
   have hpos : 0 < ((qt m s ⟨0, P, e, 0⟩).chans.getD C []).length := by
    have hw := (hW' C hC').2
    have hwE := (hW C hC').1
    rw [hev] at hw
    have := (qwd (E := E) (e := ⟨0, i, P, C, qej (qt m s ⟨0, P, e, 0⟩) C, -1⟩) (c := (C : Int)) (decide_eq_true ⟨rfl, .inl rfl⟩) hwE).2.2
    rw [show (some (⟨0, i, P, C, qej (qt m s ⟨0, P, e, 0⟩) C, -1⟩ : Ev)).toList = [⟨0, i, P, C, qej (qt m s ⟨0, P, e, 0⟩) C, -1⟩] from rfl, this, List.length_append] at hw
    rw [← hw]
    exact Nat.succ_pos _
   have := jry m s (qt m s ⟨0, P, e, 0⟩) E hE i P e C hW hP he h2 hC hC' htl hpos hlt
   rw [hev, show (some (⟨0, i, P, C, qej (qt m s ⟨0, P, e, 0⟩) C, -1⟩ : Ev)).toList = [⟨0, i, P, C, qej (qt m s ⟨0, P, e, 0⟩) C, -1⟩] from rfl, List.length_append]
   exact this
  ·by_cases h3 : ((edgesOf m P).getD e ed0).act = 3
   ·have hch := hed.chn (.inr h3)
    obtain ⟨C, hC⟩ := Int.eq_ofNat_of_zero_le hch.1
    have hC' : C < m.chans.length := by omega
    have hev : evOf m s (qt m s ⟨0, P, e, 0⟩) i ⟨0, P, e, 0⟩ E = some ⟨1, i, P, C, qbf s C, qbq E C⟩ := by
     unfold evOf
     rw [if_neg (by simp), if_neg (by simp), hte, if_neg h2, if_pos h3, hC]
    have hq := hq h3
    rw [hC] at hq
    have := jrz m s (qt m s ⟨0, P, e, 0⟩) E hE i P e C hW hP he h3 hC hC' hl hq
    rw [hev, show (some (⟨1, i, P, C, qbf s C, qbq E C⟩ : Ev)).toList = [⟨1, i, P, C, qbf s C, qbq E C⟩] from rfl, List.length_append]
    exact this
   ·have hev : evOf m s (qt m s ⟨0, P, e, 0⟩) i ⟨0, P, e, 0⟩ E = none := by
     unfold evOf
     rw [if_neg (by simp), if_neg (by simp), hte, if_neg h2, if_neg h3]
    have := jsa m s (qt m s ⟨0, P, e, 0⟩) E i P e hP he h2 h3
    rw [hev, show (none : Option Ev).toList = [] from rfl, List.append_nil]
    exact this
theorem qwe (x : AV) : Le x .any := Le.any _
theorem jsf (m : Md) (hM : ModOk m) (s : Stt) (hf : qn m s = true) (l : List Mv) (i : Nat) (hi : i < l.length) (h : jm m s (l.getD i {}) = true) (E : List Ev) (hE : E.length ≤ 1000000) (hW : qdd m s E) :
  Trip Tryz.prog 58 [iv i, s.av, (qt m s (l.getD i {})).av, .ptr 0 0, .ptr 4 0] [boxG m E.length, rowE E, rowW m E, famW m E, .box 37 [qgu l]] (.tup [])
   [(0, boxG m (E ++ (evOf m s (qt m s (l.getD i {})) i (l.getD i {}) E).toList).length), (1, rowE (E ++ (evOf m s (qt m s (l.getD i {})) i (l.getD i {}) E).toList)), (2, rowW m (E ++ (evOf m s (qt m s (l.getD i {})) i (l.getD i {}) E).toList)), (3, famW m (E ++ (evOf m s (qt m s (l.getD i {})) i (l.getD i {}) E).toList)), (4, .box 37 [qgu l])] 5 := by
 have ht := jse m hM s hf (l.getD i {}) h E hE i hW
 generalize qt m s (l.getD i {}) = t at ht ⊢
 generalize E ++ (evOf m s t i (l.getD i {}) E).toList = E' at ht ⊢
 unfold boxG rowE rowW famW at *
 refine zL {} 300 Tryz.func58 (fun c0 rdb mpb => ?_)
 ((conv => whnf); refine zQ 300 ?_)
 (repeat' ((conv => whnf); first | refine Ob.auto ?_ | fail))
 ((conv => whnf); refine CallY.trip [0, 1, 2, 3] (ht) (by kernel_rfl) leA qa (by exact qce ⟨fun _ _ => rfl, trivial⟩) (by exact qce ⟨fun _ _ => rfl, trivial⟩) ?_)
 (repeat' ((conv => whnf); first | refine zA ?_ | fail))
 exact ⟨Le.refl _, SoLe.refl _, SoLe.refl _, SoLe.refl _, SoLe.refl _, SoLe.refl _, trivial⟩
theorem jsg (m : Md) (hM : ModOk m) (h0 : qn m (qx m) = true) (l : List Mv) (hl : l.length ≤ 1000000) : Trip Tryz.prog 56 [m.av, qgu l, .fn 58 [.ptr 0 0, .ptr 2 0]]
  [.box 94 (m.cells ++ [.nils, .own 1 0 0 m.chans.length]), .row [] 23 1 0 m.chans.length (fun _ => [.nils]), .box 37 [qgu l]] (.tup [(stN m l (nF m l)).av, iv (nF m l)]) [(0, .box 94 (m.cells ++ [.own 6 0 0 (qcf m l).length, .any])), (6, .row [] 70 6 0 (qcf m l).length (encL Ev.cells {} (qcf m l)))] 7 := by
 refine zL {} 300 Tryz.func56 (fun c0 rdb mpb => ?_)
 (repeat' ((conv => whnf); first | refine zC 300 (qwb m hM.ok) ?_ | fail))
 refine qcl 0 7 70 6 rfl rfl ?_
 refine qyz 1 3 1 rfl (fun _ _ => rfl) ?_
 ((conv => whnf); refine qo (fun _ => rfl) 300 1 (fun i : Nat => [(17, iv i)]) (fun i => [(5, .box 34 (stN m l i).cells), (0, .box 94 (m.cells ++ [.own 6 0 0 (evN m l i).length, .own 1 0 0 m.chans.length])), (6, .row [] 70 6 0 (evN m l i).length (encL Ev.cells {} (evN m l i))), (1, .row [7] 23 1 0 m.chans.length (fun k => [.own 7 k (jt (evN m l i) k) (ja (evN m l i) k).length])), (7, .fam 3 1 m.chans.length (fun k => jt (evN m l i) k) (fun k => (ja (evN m l i) k).length) (fun k => encL (fun n : Nat => [iv n]) 0 (ja (evN m l i) k)))]) (fun i => i ≤ l.length ∧ ∀ j, j < i → okN m l j = true) (fun i => l.length - i) (0) (⟨Nat.zero_le _, fun j hj => absurd hj (Nat.not_lt_zero j)⟩) qa ⟨⟨rfl, Le.refl _, Le.refl _, Le.refl _, Le.refl _, trivial⟩, ⟨rfl, LeL.refl _⟩, qaz (fun k hk => absurd hk (Nat.not_lt_zero k)), qaz (fun _ _ => rfl), qeh (fun _ _ => rfl) (fun _ _ => rfl) (fun k j _ hj => absurd hj (Nat.not_lt_zero j)), trivial⟩ (fun _ => rfl) (by kernel_rfl) ?_; (conv => whnf))
 rintro i ⟨hi, hp⟩
 have hf := qki hM h0 hp
 have hW := jer hM h0 hp
 have hE := qwc m l i
 by_cases hok : okN m l i = true
 ·have hdo := jeg hM hf hok
  (repeat' ((conv => whnf); first | refine Ob.auto ?_ | refine zC 300 (hdo) ?_ | (apply zB <;> intro hb <;> (try simp [-List.getD_eq_getElem?_getD] at hb) <;> try (exfalso; omega))))
  ·have hil : i < l.length := by omega
   have ht := jsf m hM (stN m l i) hf l i hil hok (evN m l i) (by omega) hW
   unfold boxG rowE rowW famW at ht
   ((conv => whnf); refine qfh (fun _ => rfl) 300 [0, 6, 1, 7, 2] (ht) (by kernel_rfl) leA qa (by exact qce ⟨fun _ _ => rfl, trivial⟩) (by exact qce ⟨fun _ _ => rfl, trivial⟩) (by kernel_rfl) ?_)
   (repeat' ((conv => whnf); first | refine Ob.auto ?_ | fail))
   ((conv => whnf); refine ⟨i + 1, ⟨by omega, jx hp hok⟩, ⟨qa, ⟨SoLe.refl _, SoLe.refl _, SoLe.refl _, SoLe.refl _, SoLe.refl _, trivial⟩⟩, ⟨qa, qa⟩, ?_⟩; (first | omega | (dsimp only; omega) | skip))
  ·obtain rfl : i = l.length := by omega
   have hn : nF m l = l.length := qiy hi hp (.inl rfl)
   rw [show qcf m l = evN m l l.length from by unfold qcf; rw [hn], hn]
   exact ⟨Le.tup ⟨Le.refl _, Le.refl _, trivial⟩, ⟨rfl, Le.refl _, Le.refl _, Le.refl _, Le.refl _, Le.refl _, Le.refl _, Le.refl _, Le.refl _, qwe _, trivial⟩, SoLe.refl _, trivial⟩
 ·have hdo := jeh hM hf (Bool.not_eq_true _ ▸ hok)
  (repeat' ((conv => whnf); first | refine Ob.auto ?_ | refine zC 300 (hdo) ?_ | (apply zB <;> intro hb <;> (try simp [-List.getD_eq_getElem?_getD] at hb) <;> try (exfalso; omega))))
  ·have hn : nF m l = i := qiy hi hp (.inr (Bool.not_eq_true _ ▸ hok))
   rw [show qcf m l = evN m l i from by unfold qcf; rw [hn], hn]
   exact ⟨Le.tup ⟨Le.refl _, Le.refl _, trivial⟩, ⟨rfl, Le.refl _, Le.refl _, Le.refl _, Le.refl _, Le.refl _, Le.refl _, Le.refl _, Le.refl _, qwe _, trivial⟩, SoLe.refl _, trivial⟩
  ·obtain rfl : i = l.length := by omega
   have hn : nF m l = l.length := qiy hi hp (.inl rfl)
   rw [show qcf m l = evN m l l.length from by unfold qcf; rw [hn], hn]
   exact ⟨Le.tup ⟨Le.refl _, Le.refl _, trivial⟩, ⟨rfl, Le.refl _, Le.refl _, Le.refl _, Le.refl _, Le.refl _, Le.refl _, Le.refl _, Le.refl _, qwe _, trivial⟩, SoLe.refl _, trivial⟩
theorem qwf (m : Md) (hM : ModOk m) (h0 : qn m (qx m) = true) (l : List Mv) (hl : l.length ≤ 1000000) : Con Tryz.prog 31 [m.av, qgu l] (evsV (qcf m l)) := by
 have hz := hM.sz
 refine zK {} 300 Tryz.func31 (fun c0 rdb => ?_)
 (repeat' ((conv => whnf); first | refine zO ?_ | refine Ob.auto ?_ | (refine Ob.intro (by (first | exact ⟨by omega, by omega⟩ | (refine ⟨by omega, by omega, by omega, ?_⟩; dsimp only; refine Int.le_trans (Int.mul_le_mul_of_nonneg_right (?_ : _ ≤ (4000001 : Int)) (Int.natCast_nonneg _)) (by decide +kernel); omega))) ?_) | refine zD 300 ?_ | fail))
 ((conv => whnf); refine zT 300 [8, 6, 1] (jsg m hM h0 l hl) (?_) ?_)
 ·exact ⟨⟨rfl, LeL.refl _⟩, qaz (fun k _ => by kernel_rfl), SoLe.refl _, trivial⟩
 (repeat' ((conv => whnf); first | refine Ob.auto ?_ | fail))
 exact Le.refl _
end Go.Proofs.YtdoaagphhjggbaaGreat
end
