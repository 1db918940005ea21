/- Some texts of the library, one behind the other. -/
import Derived.Test.YtdoaagphhjggbaaGreatQ40
import Derived.Test.YtdoaagphhjggbaaGreatQ30
import Derived.Test.YtdoaagphhjggbaaGreatQ34
import Derived.Test.YtdoaagphhjggbaaGreatQ28
import Derived.Test.YtdoaagphhjggbaaGreatQ39
import Derived.Test.YtdoaagphhjggbaaGreatQ32
import Derived.Test.YtdoaagphhjggbaaGreatQ2
section
namespace Go.St
open Go Go.Sx
theorem jex {m : Md} {s s' : Stt} {E : List Ev} {e : Ev} {c : Nat} {x : Int} (hW : qde m s E) (hp : qgz c e = true) (hl : s.chans.length = m.chans.length) (hc : c < m.chans.length) (hs : s'.chans = s.chans.set c (s.chans.getD c [] ++ [x])) : qde m s' (E ++ [e]) := by
 intro k hk
 obtain ⟨w1, w2⟩ := hW k hk
 by_cases h : k = c
 ·subst h
  obtain ⟨e1, e2, e3⟩ := qwi hp w1
  refine ⟨e2, ?_⟩
  rw [e3, hs, qgx, if_pos ⟨rfl, by omega⟩, List.length_append, List.length_append, w2]; rfl
 ·have hec : e.ch = c := (of_decide_eq_true hp).1
  obtain ⟨o1, o2, o3⟩ := qhc (E := E) (e := e) (c := (k : Int)) (by rw [hec]; omega)
  refine ⟨by rw [o1, o2]; exact w1, ?_⟩
  rw [o3, w2, hs, qgx, if_neg (fun h' => h h'.1)]
theorem jey {m : Md} {s s' : Stt} {E : List Ev} {e : Ev} {c : Nat} (hW : qde m s E) (hp : qic c e = true) (hl : s.chans.length = m.chans.length) (hc : c < m.chans.length) (hq : 0 < (s.chans.getD c []).length) (hs : s'.chans = s.chans.set c ((s.chans.getD c []).drop 1)) : qde m s' (E ++ [e]) := by
 intro k hk
 obtain ⟨w1, w2⟩ := hW k hk
 by_cases h : k = c
 ·subst h
  obtain ⟨e1, e2, e3⟩ := jeu hp w1 (by omega)
  refine ⟨e2, ?_⟩
  rw [e3, hs, qgx, if_pos ⟨rfl, by omega⟩, List.length_drop, List.length_drop, w2]
 ·have hec : e.ch = c := (of_decide_eq_true hp).1
  obtain ⟨o1, o2, o3⟩ := qhc (E := E) (e := e) (c := (k : Int)) (by rw [hec]; omega)
  refine ⟨by rw [o1, o2]; exact w1, ?_⟩
  rw [o3, w2, hs, qgx, if_neg (fun h' => h h'.1)]
theorem jsl {m : Md} {s s' : Stt} {E : List Ev} (hW : qde m s E) (hs : s'.chans = s.chans) : qde m s' E := fun k hk => by
 rw [hs]; exact hW k hk
theorem jez {m : Md} {s : Stt} {p : Nat} {e : Ed} (h : canB m s p e = true) (h3 : e.act = 3) : 0 < (s.chans.getD e.chn.toNat []).length := by
 unfold canB qlen at h
 rw [if_neg (by omega), if_pos h3, Bool.and_eq_true] at h
 have := of_decide_eq_true h.2
 omega
inductive MvC (m : Md) (s : Stt) : Mv → Prop
 | lose (c : Nat) (hc : c < m.chans.length) (hq : 0 < (s.chans.getD c []).length) : MvC m s ⟨1, 0, 0, c⟩
 | copy (c : Nat) (hc : c < m.chans.length) (hq : 0 < (s.chans.getD c []).length) : MvC m s ⟨2, 0, 0, c⟩
 | edge (P e : Nat) (hP : P < m.procs.length) (he : e < (edgesOf m P).length) (h : canB m s P ((edgesOf m P).getD e ed0) = true) : MvC m s ⟨0, P, e, 0⟩
theorem jfa {m : Md} {s : Stt} {v : Mv} (h : jo m s v = true) : MvC m s v := by
 obtain ⟨k, p, e, c⟩ := v
 unfold jo at h
 simp only at h
 split at h
 ·rename_i hk
  rw [Bool.and_eq_true, Bool.and_eq_true] at h
  obtain ⟨ha, hb, h4⟩ := h
  have h2 := of_decide_eq_true ha
  have h3 := of_decide_eq_true hb
  clear ha hb
  obtain ⟨P, rfl⟩ := Int.eq_ofNat_of_zero_le h3.1
  obtain ⟨E, rfl⟩ := Int.eq_ofNat_of_zero_le h3.2.2.1
  obtain ⟨rfl, _⟩ := h2
  subst hk
  exact .edge P E (by omega) (by have := h3.2.2.2; rw [Int.toNat_natCast] at this; omega) h4
 ·split at h
  ·rename_i hk
   rw [Bool.and_eq_true] at h
   obtain ⟨ha, h3⟩ := h
   have h2 := of_decide_eq_true ha
   clear ha
   obtain ⟨_, rfl, rfl, h0, h1⟩ := h2
   obtain ⟨C, rfl⟩ := Int.eq_ofNat_of_zero_le h0
   split at h3
   ·rename_i hk1
    subst hk1
    refine .lose C (by omega) ?_
    unfold qjc qlen at h3
    simp only [Bool.and_eq_true, decide_eq_true_eq, Int.toNat_natCast] at h3
    omega
   ·obtain rfl : k = 2 := by omega
    refine .copy C (by omega) ?_
    unfold qib qlen at h3
    simp only [Bool.and_eq_true, decide_eq_true_eq, Int.toNat_natCast] at h3
    omega
  ·cases h
theorem jsm {m : Md} {s : Stt} {P e : Nat} : qu m s ⟨0, P, e, 0⟩ = qcv m s P ((edgesOf m P).getD e ed0) := rfl
theorem jfb {m : Md} (hM : ModOk m) {s : Stt} (hf : qi m s = true) {v : Mv} (h : jo m s v = true) {E : List Ev} (hW : qde m s E) (i : Nat) : qde m (qu m s v) (E ++ (evOf m s (qu m s v) i v E).toList) := by
 have hl := ((ji m s).1 hf).1.2.2.1
 cases jfa h with
 | lose c hc hq =>
  exact jey (c := c) (e := ⟨2, i, -1, c, qbh s c, qbt E c⟩) hW (decide_eq_true ⟨rfl, .inr rfl⟩) hl hc hq rfl
 | copy c hc hq =>
  exact jex (c := c) (e := ⟨3, i, -1, c, qbh s c, qbt E c⟩) hW (decide_eq_true ⟨rfl, .inr rfl⟩) hl hc rfl
 | edge P e hP he hcan =>
  have hed := edOk hM hP he
  have hte : edOf m ⟨0, P, e, 0⟩ = (edgesOf m P).getD e ed0 := rfl
  rw [jsm]
  unfold evOf
  rw [if_neg (by simp), if_neg (by simp), hte]
  have hq := jez hcan
  generalize (edgesOf m P).getD e ed0 = d at hed hq ⊢
  by_cases h2 : d.act = 2
  ·have hch := hed.chn (.inl h2)
   obtain ⟨C, hC⟩ := Int.eq_ofNat_of_zero_le hch.1
   rw [if_pos h2, hC]
   refine jex (c := C) (x := trim (if d.expr < 0 then 0 else (val m P s d.expr).1) (m.chans.getD C ch0).width) hW (decide_eq_true ⟨rfl, .inl rfl⟩) hl (by omega) ?_
   unfold qcv qm
   simp only
   rw [if_neg (by omega), if_pos h2, hC]; rfl
  ·by_cases h3 : d.act = 3
   ·have hch := hed.chn (.inr h3)
    obtain ⟨C, hC⟩ := Int.eq_ofNat_of_zero_le hch.1
    have hq := hq h3
    rw [if_neg h2, if_pos h3, hC]
    rw [hC] at hq
    refine jey (c := C) hW (decide_eq_true ⟨rfl, .inl rfl⟩) hl (by omega) hq ?_
    unfold qcv qm
    simp only
    rw [if_neg (by omega), if_neg h2, if_pos h3, hC]; rfl
   ·rw [if_neg h2, if_neg h3]
    rw [show (Option.none : Option Ev).toList = [] from rfl, List.append_nil]
    refine jsl hW ?_
    unfold qcv qm
    simp only
    split
    ·rfl
    ·rfl
theorem jsn (m : Md) : qde m (qw m) [] := fun k hk => by
 refine ⟨Nat.le_refl _, ?_⟩
 unfold qw
 rw [qka _ _ _ _ hk]; rfl
theorem jfc {m : Md} (hM : ModOk m) (h0 : qi m (qw m) = true) {l : List Mv} : ∀ {i : Nat}, (∀ j, j < i → okN m l j = true) → qde m (stN m l i) (evN m l i)
 | 0, _ => jsn m
 | i + 1, h => jfb hM (qkn hM h0 (i := i) fun j hj => h j (by omega)) (h i (by omega)) (jfc hM h0 (i := i) fun j hj => h j (by omega)) i
end Go.St
end
section
namespace Go.Proofs.YtdoaagphhjggbaaGreat
open Go Go.Sx Go.RowKit Go.St
set_option maxRecDepth 100000
set_option maxHeartbeats 4000000
theorem jso (m : Md) (hM : ModOk m) (s : Stt) (hf : qi m s = true) (v : Mv) (h : jo m s v = true) (E : List Ev) (hE : E.length ≤ 1000000) (i : Nat) (hW : qde m s E) :
  Trip Tryz.prog 59 [.ptr 0 0, iv i, v.av, s.av, (qu m s v).av] [boxG m E.length, rowE E, rowW m E, famW m E] (.tup [])
   [(0, boxG m (E ++ (evOf m s (qu m s v) i v E).toList).length), (1, rowE (E ++ (evOf m s (qu m s v) i v E).toList)), (2, rowW m (E ++ (evOf m s (qu m s v) i v E).toList)), (3, famW m (E ++ (evOf m s (qu m s v) i v E).toList))] 4 := by
 have hl := ((ji m s).1 hf).1.2.2.1
 have hft := jdo hM hf h
 have htl := ((ji m _).1 hft).1.2.2.1
 have hW' := jfb hM hf h hW i
 cases jfa h with
 | lose c hc hq =>
  have := jsg m s (qu m s ⟨1, 0, 0, c⟩) E hE i c hl hW hc hq
  rw [show (evOf m s (qu m s ⟨1, 0, 0, c⟩) i ⟨1, 0, 0, c⟩ E).toList = [⟨2, i, -1, c, qbh s c, qbt E c⟩] from rfl, List.length_append]
  exact this
 | copy c hc hq =>
  have := jsh m s (qu m s ⟨2, 0, 0, c⟩) E hE i c hl hW hc hq
  rw [show (evOf m s (qu m s ⟨2, 0, 0, c⟩) i ⟨2, 0, 0, c⟩ E).toList = [⟨3, i, -1, c, qbh s c, qbt E c⟩] from rfl, List.length_append]
  exact this
 | edge P e hP he hcan =>
  have hed := edOk hM hP he
  have hq := jez hcan
  have hte : edOf m ⟨0, P, e, 0⟩ = (edgesOf m P).getD e ed0 := rfl
  by_cases h2 : ((edgesOf m P).getD e ed0).act = 2
  ·have hch := hed.chn (.inl h2)
   obtain ⟨C, hC⟩ := Int.eq_ofNat_of_zero_le hch.1
   have hC' : C < m.chans.length := by omega
   have hev : evOf m s (qu m s ⟨0, P, e, 0⟩) i ⟨0, P, e, 0⟩ E = some ⟨0, i, P, C, qen (qu m s ⟨0, P, e, 0⟩) C, -1⟩ := by
    unfold evOf
    rw [if_neg (by simp), if_neg (by simp), hte, if_pos h2, hC]
   have hss := qbx hM hft
   have hlt := hss.l _ (ql _ C [] (by omega))
   have hpos : 0 < ((qu m s ⟨0, P, e, 0⟩).chans.getD C []).length := by
    have hw := (hW' C hC').2
    have hwE := (hW C hC').1
    rw [hev] at hw
    have := (qwi (E := E) (e := ⟨0, i, P, C, qen (qu m s ⟨0, P, e, 0⟩) C, -1⟩) (c := (C : Int)) (decide_eq_true ⟨rfl, .inl rfl⟩) hwE).2.2
    rw [show (some (⟨0, i, P, C, qen (qu m s ⟨0, P, e, 0⟩) C, -1⟩ : Ev)).toList = [⟨0, i, P, C, qen (qu m s ⟨0, P, e, 0⟩) C, -1⟩] from rfl, this, List.length_append] at hw
    rw [← hw]
    exact Nat.succ_pos _
   have := jsi m s (qu m s ⟨0, P, e, 0⟩) E hE i P e C hW hP he h2 hC hC' htl hpos hlt
   rw [hev, show (some (⟨0, i, P, C, qen (qu m s ⟨0, P, e, 0⟩) C, -1⟩ : Ev)).toList = [⟨0, i, P, C, qen (qu m s ⟨0, P, e, 0⟩) C, -1⟩] from rfl, List.length_append]
   exact this
  ·by_cases h3 : ((edgesOf m P).getD e ed0).act = 3
   ·have hch := hed.chn (.inr h3)
    obtain ⟨C, hC⟩ := Int.eq_ofNat_of_zero_le hch.1
    have hC' : C < m.chans.length := by omega
    have hev : evOf m s (qu m s ⟨0, P, e, 0⟩) i ⟨0, P, e, 0⟩ E = some ⟨1, i, P, C, qbh s C, qbt E C⟩ := by
     unfold evOf
     rw [if_neg (by simp), if_neg (by simp), hte, if_neg h2, if_pos h3, hC]
    have hq := hq h3
    rw [hC] at hq
    have := jsj m s (qu m s ⟨0, P, e, 0⟩) E hE i P e C hW hP he h3 hC hC' hl hq
    rw [hev, show (some (⟨1, i, P, C, qbh s C, qbt E C⟩ : Ev)).toList = [⟨1, i, P, C, qbh s C, qbt E C⟩] from rfl, List.length_append]
    exact this
   ·have hev : evOf m s (qu m s ⟨0, P, e, 0⟩) i ⟨0, P, e, 0⟩ E = none := by
     unfold evOf
     rw [if_neg (by simp), if_neg (by simp), hte, if_neg h2, if_neg h3]
    have := jsk m s (qu m s ⟨0, P, e, 0⟩) E i P e hP he h2 h3
    rw [hev, show (none : Option Ev).toList = [] from rfl, List.append_nil]
    exact this
theorem qwj (x : AV) : Le x .any := Le.any _
theorem jsp (m : Md) (hM : ModOk m) (s : Stt) (hf : qi m s = true) (l : List Mv) (i : Nat) (hi : i < l.length) (h : jo m s (l.getD i {}) = true) (E : List Ev) (hE : E.length ≤ 1000000) (hW : qde m s E) :
  Trip Tryz.prog 58 [iv i, s.av, (qu m s (l.getD i {})).av, .ptr 0 0, .ptr 4 0] [boxG m E.length, rowE E, rowW m E, famW m E, .box 37 [qec l]] (.tup [])
   [(0, boxG m (E ++ (evOf m s (qu m s (l.getD i {})) i (l.getD i {}) E).toList).length), (1, rowE (E ++ (evOf m s (qu m s (l.getD i {})) i (l.getD i {}) E).toList)), (2, rowW m (E ++ (evOf m s (qu m s (l.getD i {})) i (l.getD i {}) E).toList)), (3, famW m (E ++ (evOf m s (qu m s (l.getD i {})) i (l.getD i {}) E).toList)), (4, .box 37 [qec l])] 5 := by
 have ht := jso m hM s hf (l.getD i {}) h E hE i hW
 generalize qu m s (l.getD i {}) = t at ht ⊢
 generalize E ++ (evOf m s t i (l.getD i {}) E).toList = E' at ht ⊢
 unfold boxG rowE rowW famW at *
 refine zL {} 300 Tryz.func58 (fun c0 rdb mpb => ?_)
 ((conv => whnf); refine zQ 300 ?_)
 (repeat' ((conv => whnf); first | refine Ob.auto ?_ | fail))
 ((conv => whnf); refine CallY.trip [0, 1, 2, 3] (ht) (by kernel_rfl) leA qa (by exact qch ⟨fun _ _ => rfl, trivial⟩) (by exact qch ⟨fun _ _ => rfl, trivial⟩) ?_)
 (repeat' ((conv => whnf); first | refine zA ?_ | fail))
 exact ⟨Le.refl _, SoLe.refl _, SoLe.refl _, SoLe.refl _, SoLe.refl _, SoLe.refl _, trivial⟩
theorem jsq (m : Md) (hM : ModOk m) (h0 : qi m (qw m) = true) (l : List Mv) (hl : l.length ≤ 1000000) : Trip Tryz.prog 56 [m.av, qec l, .fn 58 [.ptr 0 0, .ptr 2 0]]
  [.box 94 (m.cells ++ [.nils, .own 1 0 0 m.chans.length]), .row [] 23 1 0 m.chans.length (fun _ => [.nils]), .box 37 [qec l]] (.tup [(stN m l (nF m l)).av, iv (nF m l)]) [(0, .box 94 (m.cells ++ [.own 6 0 0 (qci m l).length, .any])), (6, .row [] 70 6 0 (qci m l).length (encL Ev.cells {} (qci m l)))] 7 := by
 refine zL {} 300 Tryz.func56 (fun c0 rdb mpb => ?_)
 (repeat' ((conv => whnf); first | refine zC 300 (jeo m hM.ok) ?_ | fail))
 refine qco 0 7 70 6 rfl rfl ?_
 refine qzf 1 3 1 rfl (fun _ _ => rfl) ?_
 ((conv => whnf); refine qo (fun _ => rfl) 300 1 (fun i : Nat => [(17, iv i)]) (fun i => [(5, .box 34 (stN m l i).cells), (0, .box 94 (m.cells ++ [.own 6 0 0 (evN m l i).length, .own 1 0 0 m.chans.length])), (6, .row [] 70 6 0 (evN m l i).length (encL Ev.cells {} (evN m l i))), (1, .row [7] 23 1 0 m.chans.length (fun k => [.own 7 k (jv (evN m l i) k) (jb (evN m l i) k).length])), (7, .fam 3 1 m.chans.length (fun k => jv (evN m l i) k) (fun k => (jb (evN m l i) k).length) (fun k => encL (fun n : Nat => [iv n]) 0 (jb (evN m l i) k)))]) (fun i => i ≤ l.length ∧ ∀ j, j < i → okN m l j = true) (fun i => l.length - i) (0) (⟨Nat.zero_le _, fun j hj => absurd hj (Nat.not_lt_zero j)⟩) qa ⟨⟨rfl, Le.refl _, Le.refl _, Le.refl _, Le.refl _, trivial⟩, ⟨rfl, LeL.refl _⟩, qba (fun k hk => absurd hk (Nat.not_lt_zero k)), qba (fun _ _ => rfl), qek (fun _ _ => rfl) (fun _ _ => rfl) (fun k j _ hj => absurd hj (Nat.not_lt_zero j)), trivial⟩ (fun _ => rfl) (by kernel_rfl) ?_; (conv => whnf))
 rintro i ⟨hi, hp⟩
 have hf := qkn hM h0 hp
 have hW := jfc hM h0 hp
 have hE := jet m l i
 by_cases hok : okN m l i = true
 ·have hdo := jep hM hf hok
  (repeat' ((conv => whnf); first | refine Ob.auto ?_ | refine zC 300 (hdo) ?_ | (apply zB <;> intro hb <;> (try simp [-List.getD_eq_getElem?_getD] at hb) <;> try (exfalso; omega))))
  ·have hil : i < l.length := by omega
   have ht := jsp m hM (stN m l i) hf l i hil hok (evN m l i) (by omega) hW
   unfold boxG rowE rowW famW at ht
   ((conv => whnf); refine qfm (fun _ => rfl) 300 [0, 6, 1, 7, 2] (ht) (by kernel_rfl) leA qa (by exact qch ⟨fun _ _ => rfl, trivial⟩) (by exact qch ⟨fun _ _ => rfl, trivial⟩) (by kernel_rfl) ?_)
   (repeat' ((conv => whnf); first | refine Ob.auto ?_ | fail))
   ((conv => whnf); refine ⟨i + 1, ⟨by omega, jz hp hok⟩, ⟨qa, ⟨SoLe.refl _, SoLe.refl _, SoLe.refl _, SoLe.refl _, SoLe.refl _, trivial⟩⟩, ⟨qa, qa⟩, ?_⟩; (first | omega | (dsimp only; omega) | skip))
  ·obtain rfl : i = l.length := by omega
   have hn : nF m l = l.length := qgy hi hp (.inl rfl)
   rw [show qci m l = evN m l l.length from by unfold qci; rw [hn], hn]
   exact ⟨Le.tup ⟨Le.refl _, Le.refl _, trivial⟩, ⟨rfl, Le.refl _, Le.refl _, Le.refl _, Le.refl _, Le.refl _, Le.refl _, Le.refl _, Le.refl _, qwj _, trivial⟩, SoLe.refl _, trivial⟩
 ·have hdo := jeq hM hf (Bool.not_eq_true _ ▸ hok)
  (repeat' ((conv => whnf); first | refine Ob.auto ?_ | refine zC 300 (hdo) ?_ | (apply zB <;> intro hb <;> (try simp [-List.getD_eq_getElem?_getD] at hb) <;> try (exfalso; omega))))
  ·have hn : nF m l = i := qgy hi hp (.inr (Bool.not_eq_true _ ▸ hok))
   rw [show qci m l = evN m l i from by unfold qci; rw [hn], hn]
   exact ⟨Le.tup ⟨Le.refl _, Le.refl _, trivial⟩, ⟨rfl, Le.refl _, Le.refl _, Le.refl _, Le.refl _, Le.refl _, Le.refl _, Le.refl _, Le.refl _, qwj _, trivial⟩, SoLe.refl _, trivial⟩
  ·obtain rfl : i = l.length := by omega
   have hn : nF m l = l.length := qgy hi hp (.inl rfl)
   rw [show qci m l = evN m l l.length from by unfold qci; rw [hn], hn]
   exact ⟨Le.tup ⟨Le.refl _, Le.refl _, trivial⟩, ⟨rfl, Le.refl _, Le.refl _, Le.refl _, Le.refl _, Le.refl _, Le.refl _, Le.refl _, Le.refl _, qwj _, trivial⟩, SoLe.refl _, trivial⟩
theorem qwk (m : Md) (hM : ModOk m) (h0 : qi m (qw m) = true) (l : List Mv) (hl : l.length ≤ 1000000) : Con Tryz.prog 31 [m.av, qec l] (evsV (qci m l)) := by
 have hz := hM.sz
 refine zK {} 300 Tryz.func31 (fun c0 rdb => ?_)
 (repeat' ((conv => whnf); first | refine zO ?_ | refine Ob.auto ?_ | (refine Ob.intro (by (first | exact ⟨by omega, by omega⟩ | (refine ⟨by omega, by omega, by omega, ?_⟩; dsimp only; refine Int.le_trans (Int.mul_le_mul_of_nonneg_right (?_ : _ ≤ (4000001 : Int)) (Int.natCast_nonneg _)) (by decide +kernel); omega))) ?_) | refine zD 300 ?_ | fail))
 ((conv => whnf); refine zT 300 [8, 6, 1] (jsq m hM h0 l hl) (?_) ?_)
 ·exact ⟨⟨rfl, LeL.refl _⟩, qba (fun k _ => by kernel_rfl), SoLe.refl _, trivial⟩
 (repeat' ((conv => whnf); first | refine Ob.auto ?_ | fail))
 exact Le.refl _
set_option maxHeartbeats 8000000
theorem jsr (l : List Nd) (hl : l.length ≤ 9223372036854775807) (hz : ∀ n ∈ l, NdSz n) : Con Tryz.prog 28 [jq l] (.tup [(qfd l).1.av, .bool (qfd l).2]) := by
 have hm : Tree l → Con Tryz.prog 37 [jq l] (.tup [(if (qbw l).1 = 0 then qfb l else mdZ).av, .bool (decide ((qbw l).1 = 0))]) := fun ht => by
  by_cases h : (qbw l).1 = 0
  ·rw [if_pos h, decide_eq_true h]; exact jdi l ht h
  ·rw [if_neg h, decide_eq_false h]; exact jqk l ht h
 refine zK {} 300 Tryz.func28 (fun c0 rdb => ?_)
 (repeat' ((conv => whnf); first | refine Ob.auto ?_ | refine zC 300 (jpf l hl) ?_ | refine zG 300 (fun hg => jpe l hl hz) ?_ | (apply zB <;> intro hb <;> (try simp [-List.getD_eq_getElem?_getD] at hb) <;> try (exfalso; omega))))
 ·have e : qfd l = (mdZ, false) := if_neg fun h => by
   rcases hb with hb | hb
   ·omega
   ·rw [hb] at h; simp at h
  rw [e]
  exact Le.tup ⟨jdj, Le.refl _, trivial⟩
 ·((conv => whnf); refine qdt (fun _ => rfl) 300 (hm (qrf hb.2)) (by rfl) leA (by kernel_rfl) ?_)
  (repeat' ((conv => whnf); first | refine Ob.auto ?_ | fail))
  have e : qfd l = (if (qbw l).1 = 0 then qfb l else mdZ, decide ((qbw l).1 = 0)) := by
   unfold qfd
   by_cases h : (qbw l).1 = 0
   ·rw [if_pos ⟨hb, h⟩, if_pos h, decide_eq_true h]
   ·rw [if_neg (fun g => h g.2), if_neg h, decide_eq_false h]
  rw [e]
  exact Le.refl _
set_option maxHeartbeats 2000000
def jfd : List Mv := [⟨0, 0, 0, 0⟩, ⟨0, 0, 1, 0⟩]
theorem jss : qi model17 (qw model17) = true := by decide +kernel
theorem jst : qci model17 jfd = [⟨0, 0, 0, 0, 1, -1⟩, ⟨1, 1, 0, 0, 1, 0⟩] := by decide +kernel
theorem jsu : Con Tryz.prog 27 [] (.bool true) := by
 have h1 := qwk model17 jqn jss jfd (by decide)
 rw [jst] at h1
 refine zK {} 300 Tryz.func27 (fun c0 rdb => ?_)
 (repeat' ((conv => whnf); first | refine zC 300 (jql) ?_ | refine zC 300 (jqm) ?_ | fail))
 ((conv => whnf); refine qdt (fun _ => rfl) 300 h1 (by rfl) ⟨Le.refl _, Le.slc rfl (fun j hj => ?_), trivial⟩ (by kernel_rfl) ?_)
 ·have hj : j < 2 := hj
  match j, hj with
  | 0, _ => rfl
  | 1, _ => rfl
 (repeat' ((conv => whnf); first | refine Ob.auto ?_ | fail))
 exact Le.of_eq (congrArg AV.bool (by kernel_rfl))
set_option maxHeartbeats 4000000


end Go.Proofs.YtdoaagphhjggbaaGreat
end
section
namespace Go.Proofs.YtdoaagphhjggbaaGreat
open List renaming getD_eq_getElem?_getD → zd
open Go Go.Sx Go.RowKit Go.St
set_option maxRecDepth 100000
set_option maxHeartbeats 2000000
theorem qwl (a b : List Int) (ha : a.length ≤ 1000000) : Con Tryz.prog 53 [ints a, ints b] (.bool (a == b)) := by
 refine zK {} 300 Tryz.func53 (fun c0 rdb => ?_)
 (repeat' ((conv => whnf); first | refine Ob.auto ?_ | (apply zB <;> intro hb <;> (try simp [-zd] at hb) <;> try (exfalso; omega))))
 ·refine Le.of_eq (congrArg AV.bool ?_)
  exact (beq_eq_false_iff_ne.2 (fun h => by subst h; simp at hb)).symm
 ·((conv => whnf); refine qo (fun _ => rfl) 300 1 (fun i : Nat => [(5, iv i)]) (fun _ => []) (fun i => i ≤ a.length ∧ ∀ j, j < i → a.getD j 0 = b.getD j 0) (fun i => a.length - i) (0) (⟨by omega, fun j hj => absurd hj (Nat.not_lt_zero j)⟩) qa qa (fun _ => rfl) (by kernel_rfl) ?_; (conv => whnf))
  intro i hi
  (repeat' ((conv => whnf); first | refine zO ?_ | refine Ob.auto ?_ | refine zD 300 ?_ | (apply zB <;> intro hb <;> (try simp [-zd] at hb) <;> try (exfalso; omega))))
  ·refine Le.of_eq (congrArg AV.bool ?_)
   exact (beq_eq_false_iff_ne.2 (fun h => by subst h; simp at hb)).symm
  ·((conv => whnf); refine ⟨i + 1, ⟨by omega, jz hi.2 hb⟩, ⟨qa, qa⟩, ⟨qa, qa⟩, ?_⟩; (first | omega | (dsimp only; omega) | skip))
  ·refine Le.of_eq (congrArg AV.bool ?_)
   exact (beq_iff_eq.2 (qzy 0 (by omega) (fun j hj => hi.2 j (by omega)))).symm
theorem jsv (a b : Stt) (ha : SSz a) : Con Tryz.prog 23 [a.av, b.av] (.bool (qlm a b)) := by
 have h1 := ha.a
 have h2 := ha.v
 have h3 := ha.c
 have h4 := ha.l
 refine zK {} 300 Tryz.func23 (fun c0 rdb => ?_)
 (repeat' ((conv => whnf); first | refine Ob.auto ?_ | refine zC 300 (qwl a.at_ b.at_ h1) ?_ | refine zG 300 (fun hg => qwl a.vars b.vars h2) ?_ | (apply zB <;> intro hb <;> (try simp [-zd] at hb) <;> try (exfalso; omega))))
 ·refine Le.of_eq (congrArg AV.bool ?_)
  refine Eq.symm ?_
  unfold qlm
  rw [Bool.eq_false_iff]
  intro h
  simp only [Bool.and_eq_true, beq_iff_eq] at h
  obtain ⟨⟨⟨e1, e2⟩, e3⟩, e4⟩ := h
  rw [e3] at hb
  simp [e1, e2, e4] at hb
 ·obtain ⟨⟨⟨e1, e2⟩, e3⟩, e4⟩ := hb
  ((conv => whnf); refine qo (fun _ => rfl) 300 1 (fun i : Nat => [(5, iv i)]) (fun _ => []) (fun i => i ≤ a.chans.length ∧ ∀ j, j < i → a.chans.getD j [] = b.chans.getD j []) (fun i => a.chans.length - i) (0) (⟨Nat.zero_le _, fun j hj => absurd hj (Nat.not_lt_zero j)⟩) qa qa (fun _ => rfl) (by kernel_rfl) ?_; (conv => whnf))
  intro i hi
  have hli : i < a.chans.length → _ := fun h => h4 _ (ql a.chans i [] h)
  (repeat' ((conv => whnf); first | refine zA ?_ | refine Ob.auto ?_ | (refine CallY.con (qwl (a.chans.getD i []) (b.chans.getD i []) (hli (by omega))) (by rfl) leA ?_) | (refine zQ 300 ?_) | (apply zB <;> intro hb <;> (try simp [-zd] at hb) <;> try (exfalso; omega))))
  ·refine Le.of_eq (congrArg AV.bool ?_)
   refine Eq.symm ?_
   unfold qlm
   rw [Bool.eq_false_iff]
   intro h
   simp only [Bool.and_eq_true, beq_iff_eq] at h
   rw [h.1.2] at hb
   exact hb rfl
  ·((conv => whnf); refine ⟨i + 1, ⟨by omega, jz hi.2 hb⟩, ⟨qa, qa⟩, ⟨qa, qa⟩, ?_⟩; (first | omega | (dsimp only; omega) | skip))
  ·refine Le.of_eq (congrArg AV.bool ?_)
   unfold qlm
   rw [e1, e2, e4, qzy [] (by omega) (fun j hj => hi.2 j (by omega))]
   simp
end Go.Proofs.YtdoaagphhjggbaaGreat
end
section
namespace Go.Proofs.YtdoaagphhjggbaaGreat
open Go Go.Sx Go.RowKit Go.St
set_option maxRecDepth 100000
set_option maxHeartbeats 4000000
theorem jsw (s : Stt) : qlm s s = true := by simp [qlm]
end Go.Proofs.YtdoaagphhjggbaaGreat
end
