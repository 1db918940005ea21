/- Some texts of the library, one behind the other. -/
import Derived.Test.YtdoaagphhjggbaaGreatQ39
import Derived.Test.YtdoaagphhjggbaaGreatQ31
import Derived.Test.YtdoaagphhjggbaaGreatQ2
section
namespace Go.Proofs.YtdoaagphhjggbaaGreat
open Go Go.Sx Go.RowKit Go.St
set_option maxRecDepth 100000
set_option maxHeartbeats 4000000
def qdo (m : Md) (l : List Mv) : Bool := decide (nF m l = l.length) && badB m (stN m l (nF m l))
theorem jsb {m : Md} (hM : ModOk m) (h0 : qi m (qw m) = true) (l : List Mv) : qi m (stN m l (nF m l)) = true := qkn hM h0 (jqq m l).2.1
theorem jep {m : Md} (hM : ModOk m) {l : List Mv} {i : Nat} (hf : qi m (stN m l i) = true) (hok : okN m l i = true) : Con Tryz.prog 22 [m.av, (stN m l i).av, (l.getD i {}).av] (.tup [(stN m l (i + 1)).av, .bool true]) := by
 have hdo := jel m hM (stN m l i) (qbx hM hf) (l.getD i {})
 have hde : doB m (stN m l i) (l.getD i {}) = true := by unfold doB; rw [hf, Bool.true_and]; exact hok
 unfold qrn at hdo
 rw [hde, if_pos rfl] at hdo
 exact hdo
theorem jeq {m : Md} (hM : ModOk m) {l : List Mv} {i : Nat} (hf : qi m (stN m l i) = true) (hok : okN m l i = false) : Con Tryz.prog 22 [m.av, (stN m l i).av, (l.getD i {}).av] (.tup [st0z.av, .bool false]) := by
 have hdo := jel m hM (stN m l i) (qbx hM hf) (l.getD i {})
 have hde : doB m (stN m l i) (l.getD i {}) = false := by unfold doB; rw [hf, Bool.true_and]; exact hok
 unfold qrn at hdo
 rw [hde, if_neg (by decide)] at hdo
 exact hdo
theorem jsc (i : Int) (s t : Stt) : Con Tryz.prog 60 [iv i, s.av, t.av] (.tup []) := by
 refine zK {} 300 Tryz.func60 (fun c0 rdb => ?_)
 (repeat' ((conv => whnf); first | refine Ob.auto ?_ | fail))
 exact Le.refl _
theorem jer (m : Md) (hM : ModOk m) (h0 : qi m (qw m) = true) (l : List Mv) (hl : l.length ≤ 1000000) : Con Tryz.prog 56 [m.av, qec l, .fn 60 []] (.tup [(stN m l (nF m l)).av, iv (nF m l)]) := by
 refine zK {} 300 Tryz.func56 (fun c0 rdb => ?_)
 (repeat' ((conv => whnf); first | refine zC 300 (jeo m hM.ok) ?_ | fail))
 ((conv => whnf); refine qo (fun _ => rfl) 300 1 (fun i : Nat => [(17, iv i)]) (fun i => [(2, .box 34 (stN m l i).cells)]) (fun i => i ≤ l.length ∧ ∀ j, j < i → okN m l j = true) (fun i => l.length - i) (0) (⟨Nat.zero_le _, fun j hj => absurd hj (Nat.not_lt_zero j)⟩) qa qa (fun _ => rfl) (by kernel_rfl) ?_; (conv => whnf))
 rintro i ⟨hi, hp⟩
 have hf := qkn hM h0 hp
 by_cases hok : okN m l i = true
 ·have hdo := jep hM hf hok
  (repeat' ((conv => whnf); first | refine Ob.auto ?_ | refine zC 300 (hdo) ?_ | refine zC 300 (jsc i (stN m l i) (stN m l (i + 1))) ?_ | (apply zB <;> intro hb <;> (try simp [-List.getD_eq_getElem?_getD] at hb) <;> try (exfalso; omega))))
  ·((conv => whnf); refine ⟨i + 1, ⟨by omega, jz hp hok⟩, ⟨qa, qa⟩, ⟨qa, qa⟩, ?_⟩; (first | omega | (dsimp only; omega) | skip))
  ·obtain rfl : i = l.length := by omega
   rw [qgy hi hp (.inl rfl)]; exact Le.refl _
 ·have hdo := jeq hM hf (Bool.not_eq_true _ ▸ hok)
  (repeat' ((conv => whnf); first | refine Ob.auto ?_ | refine zC 300 (hdo) ?_ | (apply zB <;> intro hb <;> (try simp [-List.getD_eq_getElem?_getD] at hb) <;> try (exfalso; omega))))
  ·rw [qgy hi hp (.inr (Bool.not_eq_true _ ▸ hok))]; exact Le.refl _
  ·obtain rfl : i = l.length := by omega
   rw [qgy hi hp (.inl rfl)]; exact Le.refl _
theorem jes (m : Md) (hM : ModOk m) (h0 : qi m (qw m) = true) (l : List Mv) (hl : l.length ≤ 1000000) : Con Tryz.prog 33 [m.av, qec l] (.tup [(stN m l (nF m l)).av, iv (nF m l)]) := by
 refine zK {} 300 Tryz.func33 (fun c0 rdb => ?_)
 (repeat' ((conv => whnf); first | refine Ob.auto ?_ | refine zC 300 (jer m hM h0 l hl) ?_ | fail))
 exact Le.refl _
theorem jsd (m : Md) (hM : ModOk m) (h0 : qi m (qw m) = true) (l : List Mv) (hl : l.length ≤ 1000000) : Con Tryz.prog 34 [m.av, qec l] (.bool (qdo m l)) := by
 have hf := jsb hM h0 l
 have hbd := jsa m hM (stN m l (nF m l)) (qbx hM hf)
 rw [hf, Bool.true_and] at hbd
 refine zK {} 300 Tryz.func34 (fun c0 rdb => ?_)
 (repeat' ((conv => whnf); first | refine Ob.auto ?_ | refine zC 300 (jer m hM h0 l hl) ?_ | refine zG 300 (fun hg => hbd) ?_ | fail))
 refine Le.of_eq (congrArg AV.bool ?_)
 unfold qdo
 congr 1
 rw [Bool.eq_iff_iff, beq_iff_eq, decide_eq_true_eq]
 omega

end Go.Proofs.YtdoaagphhjggbaaGreat
end
section
namespace Go.St
open Go Go.Sx
def qbh (s : Stt) (c : Int) : Int := (s.chans.getD c.toNat []).getD 0 0
def qen (s : Stt) (c : Int) : Int := (s.chans.getD c.toNat []).getD ((s.chans.getD c.toNat []).length - 1) 0
def edOf (m : Md) (v : Mv) : Ed := (edgesOf m v.proc.toNat).getD v.edge.toNat ed0
def evOf (m : Md) (s t : Stt) (i : Nat) (v : Mv) (E : List Ev) : Option Ev :=
 if v.kind = 1 then some ⟨2, i, -1, v.chn, qbh s v.chn, qbt E v.chn⟩
 else if v.kind = 2 then some ⟨3, i, -1, v.chn, qbh s v.chn, qbt E v.chn⟩
 else if (edOf m v).act = 2 then some ⟨0, i, v.proc, (edOf m v).chn, qen t (edOf m v).chn, -1⟩
 else if (edOf m v).act = 3 then some ⟨1, i, v.proc, (edOf m v).chn, qbh s (edOf m v).chn, qbt E (edOf m v).chn⟩
 else none
def evN (m : Md) (l : List Mv) : Nat → List Ev
 | 0 => []
 | i + 1 => evN m l i ++ (evOf m (stN m l i) (stN m l (i + 1)) i (l.getD i {}) (evN m l i)).toList
def qci (m : Md) (l : List Mv) : List Ev := evN m l (nF m l)
theorem jet (m : Md) (l : List Mv) : ∀ i, (evN m l i).length ≤ i
 | 0 => Nat.le_refl _
 | i + 1 => by
  have := jet m l i
  unfold evN
  rw [List.length_append]
  have : (evOf m (stN m l i) (stN m l (i + 1)) i (l.getD i {}) (evN m l i)).toList.length ≤ 1 := by
   cases evOf m (stN m l i) (stN m l (i + 1)) i (l.getD i {}) (evN m l i) <;> simp
  omega
def qde (m : Md) (s : Stt) (E : List Ev) : Prop := ∀ c : Nat, c < m.chans.length → jv E c ≤ (qbs E c).length ∧ (jb E c).length = (s.chans.getD c []).length
theorem qwi {E : List Ev} {e : Ev} {c : Int} (hp : qgz c e = true) (hg : jv E c ≤ (qbs E c).length) : jv (E ++ [e]) c = jv E c ∧ jv (E ++ [e]) c ≤ (qbs (E ++ [e]) c).length ∧ jb (E ++ [e]) c = jb E c ++ [E.length] := by
 have ht : qic c e = false := by
  unfold qgz at hp
  unfold qic
  have := of_decide_eq_true hp
  exact decide_eq_false (by omega)
 have h1 : jv (E ++ [e]) c = jv E c := by rw [qwa, ht]; rfl
 have h2 : qbs (E ++ [e]) c = qbs E c ++ [E.length] := by rw [qvz, if_pos hp]
 refine ⟨h1, by rw [h1, h2, List.length_append]; omega, ?_⟩
 unfold jb
 rw [h1, h2, List.drop_append_of_le_length hg]
theorem jeu {E : List Ev} {e : Ev} {c : Int} (ht : qic c e = true) (hg : jv E c ≤ (qbs E c).length) (hw : 0 < (jb E c).length) : jv (E ++ [e]) c = jv E c + 1 ∧ jv (E ++ [e]) c ≤ (qbs (E ++ [e]) c).length ∧ jb (E ++ [e]) c = (jb E c).drop 1 := by
 have hp : qgz c e = false := by
  unfold qic at ht
  unfold qgz
  have := of_decide_eq_true ht
  exact decide_eq_false (by omega)
 have h1 : jv (E ++ [e]) c = jv E c + 1 := by rw [qwa, ht]; rfl
 have h2 : qbs (E ++ [e]) c = qbs E c := by rw [qvz, hp]; simp
 unfold jb at hw
 rw [List.length_drop] at hw
 refine ⟨h1, by rw [h1, h2]; omega, ?_⟩
 unfold jb
 rw [h1, h2, List.drop_drop]
theorem qhc {E : List Ev} {e : Ev} {c : Int} (h : e.ch ≠ c) : jv (E ++ [e]) c = jv E c ∧ qbs (E ++ [e]) c = qbs E c ∧ jb (E ++ [e]) c = jb E c := by
 have hp : qgz c e = false := decide_eq_false (fun k => h k.1)
 have ht : qic c e = false := decide_eq_false (fun k => h k.1)
 have h1 : jv (E ++ [e]) c = jv E c := by rw [qwa, ht]; rfl
 have h2 : qbs (E ++ [e]) c = qbs E c := by rw [qvz, hp]; simp
 exact ⟨h1, h2, by unfold jb; rw [h1, h2]⟩
end Go.St
end
section
namespace Go.Proofs.YtdoaagphhjggbaaGreat
open Go Go.Sx Go.RowKit Go.St
set_option maxRecDepth 100000
set_option maxHeartbeats 4000000
def boxG (m : Md) (n : Nat) : SO := .box 94 (m.cells ++ [.own 1 0 0 n, .own 2 0 0 m.chans.length])
def rowE (E : List Ev) : SO := .row [] 70 6 0 E.length (encL Ev.cells {} E)
def rowW (m : Md) (E : List Ev) : SO := .row [3] 23 1 0 m.chans.length (fun k => [.own 3 k (jv E k) (jb E k).length])
def famW (m : Md) (E : List Ev) : SO := .fam 3 1 m.chans.length (fun k => jv E k) (fun k => (jb E k).length) (fun k => encL (fun n : Nat => [iv n]) 0 (jb E k))
theorem jse (E : List Ev) (c : Int) : (jb E c).length ≤ E.length := by
 unfold jb qbs
 rw [List.length_drop]
 have := List.length_filter_le (fun j => qgz c (E.getD j {})) (List.range E.length)
 rw [List.length_range] at this
 omega
theorem jsf {L : List Nat} {x : Nat} {g : Nat → List AV} (hg : g 0 = [iv x]) {j : Nat} (hj : j < L.length + 1) : appF L.length (encL (fun n : Nat => [iv n]) 0 L) 1 g j = encL (fun n : Nat => [iv n]) 0 (L ++ [x]) j := by
 unfold appF encL
 rw [qio]
 by_cases hl : j < L.length
 ·rw [if_pos hl, if_pos hl]
 ·obtain rfl : j = L.length := by omega
  rw [if_neg hl, if_neg hl, if_pos rfl, if_pos (by omega), Nat.sub_self, hg]
theorem jev (m : Md) (E : List Ev) (hE : E.length ≤ 1000000) (e : Ev) (c : Nat) (hc : c < m.chans.length) (hec : e.ch = c) (hp : qgz c e = true) (hg : jv E c ≤ (qbs E c).length) : Trip Tryz.prog 85 [.ptr 0 0, e.av] [boxG m E.length, rowE E, rowW m E, famW m E] (.tup []) [(0, boxG m (E.length + 1)), (1, rowE (E ++ [e])), (2, rowW m (E ++ [e])), (3, famW m (E ++ [e]))] 4 := by
 obtain ⟨k, mv, pr, ch, ms, fr⟩ := e
 simp only at hec
 subst hec
 unfold boxG rowE rowW famW
 refine zL {lit := true} 300 Tryz.func85 (fun c0 rdb mpb => ?_)
 (repeat' ((conv => whnf); first | refine zO ?_ | refine Ob.auto ?_ | refine zD 300 ?_ | refine Ob.intro ?_ ?_ | fail))
 ·have hwl := jse E c
  refine ⟨hc, ⟨rfl, rfl⟩, ⟨rfl, rfl⟩, show (jb E c).length + 1 ≤ 9223372036854775807 by omega, ?_⟩
  refine Nat.le_trans (Nat.mul_le_mul_right _ (show (jb E c).length + 1 ≤ 4000001 by omega)) ?_
  dsimp only; decide +kernel
 ·exact ⟨⟨⟨rfl, rfl⟩, hc⟩, hc, by simp [upd], by simp [upd]⟩
 ·obtain ⟨e1, _, e2⟩ := qwi hp hg
  refine ⟨Le.refl _, ⟨rfl, LeL.refl _⟩, qjd Ev.cells {} rfl rfl, ⟨⟨rfl, rfl, rfl⟩, rfl, rfl, fun j hj => ?_⟩, qek (fun j hj => ?_) (fun j hj => ?_) (fun j q hj hq => ?_), trivial⟩
  ·refine LeL.of_eq (show (if j = c then [AV.own 3 c (jv E c) ((jb E c).length + 1)] else [AV.own 3 j (jv E j) (jb E j).length]) = [AV.own 3 j (jv (E ++ [⟨k, mv, pr, c, ms, fr⟩]) j) (jb (E ++ [⟨k, mv, pr, c, ms, fr⟩]) j).length] from ?_)
   by_cases h : j = c
   ·subst h; rw [if_pos rfl, e1, e2, List.length_append]; rfl
   ·obtain ⟨o1, _, o2⟩ := qhc (E := E) (e := ⟨k, mv, pr, c, ms, fr⟩) (c := (j : Int)) (by simp only; omega)
    rw [if_neg h, o1, o2]
  ·show Go.Sx.upd _ _ _ j = _
   unfold Go.Sx.upd
   by_cases h : j = c
   ·subst h; exact (if_pos rfl).trans e1.symm
   ·obtain ⟨o1, _, o2⟩ := qhc (E := E) (e := ⟨k, mv, pr, c, ms, fr⟩) (c := (j : Int)) (by simp only; omega)
    exact (if_neg h).trans o1.symm
  ·show Go.Sx.upd _ _ _ j = _
   unfold Go.Sx.upd
   by_cases h : j = c
   ·subst h; rw [e2, List.length_append]; exact if_pos rfl
   ·obtain ⟨o1, _, o2⟩ := qhc (E := E) (e := ⟨k, mv, pr, c, ms, fr⟩) (c := (j : Int)) (by simp only; omega)
    rw [o2]; exact if_neg h
  ·have hq : q < Go.Sx.upd (fun k => (jb E k).length) c ((jb E c).length + 1) j := hq
   show Go.Sx.upd (α := Nat → List AV) _ _ _ j q = _
   unfold Go.Sx.upd at hq ⊢
   by_cases h : j = c
   ·subst h
    rw [if_pos rfl] at hq
    refine (congrFun (if_pos rfl) q).trans ?_
    rw [e2]
    exact jsf rfl hq
   ·obtain ⟨o1, _, o2⟩ := qhc (E := E) (e := ⟨k, mv, pr, c, ms, fr⟩) (c := (j : Int)) (by simp only; omega)
    refine (congrFun (if_neg h) q).trans ?_
    rw [o2]
theorem jew (m : Md) (E : List Ev) (hE : E.length ≤ 1000000) (k mv pr ms fr : Int) (c : Nat) (hc : c < m.chans.length) (hp : qic c ⟨k, mv, pr, c, ms, (jb E c).getD 0 0⟩ = true) (hg : jv E c ≤ (qbs E c).length) (hw : 0 < (jb E c).length) :
  Trip Tryz.prog 84 [.ptr 0 0, .agg [iv k, iv mv, iv pr, iv c, iv ms, iv fr]] [boxG m E.length, rowE E, rowW m E, famW m E] (.tup []) [(0, boxG m (E.length + 1)), (1, rowE (E ++ [⟨k, mv, pr, c, ms, (jb E c).getD 0 0⟩])), (2, rowW m (E ++ [⟨k, mv, pr, c, ms, (jb E c).getD 0 0⟩])), (3, famW m (E ++ [⟨k, mv, pr, c, ms, (jb E c).getD 0 0⟩]))] 4 := by
 unfold boxG rowE rowW famW
 refine zL {lit := true, cuts := [29]} 300 Tryz.func84 (fun c0 rdb mpb => ?_)
 (repeat' ((conv => whnf); first | refine zO ?_ | refine Ob.auto ?_ | refine zD 300 ?_ | refine Ob.intro ?_ ?_ | fail))
 ·exact ⟨hc, ⟨rfl, rfl⟩, by decide, show (1 : Int) ≤ ((jb E c).length : Int) by omega⟩
 ·exact ⟨⟨⟨rfl, rfl⟩, hc⟩, hc, by simp [upd], by simp [upd]⟩
 ·obtain ⟨e1, _, e2⟩ := jeu hp hg hw
  refine ⟨Le.refl _, ⟨rfl, LeL.refl _⟩, qjd Ev.cells {} rfl rfl, ⟨⟨rfl, rfl, rfl⟩, rfl, rfl, fun j hj => ?_⟩, qek (fun j hj => ?_) (fun j hj => ?_) (fun j q hj hq => ?_), trivial⟩
  ·refine LeL.of_eq (show (if j = c then [AV.own 3 c (jv E c + 1) ((jb E c).length - 1)] else [AV.own 3 j (jv E j) (jb E j).length]) = [AV.own 3 j (jv (E ++ [⟨k, mv, pr, c, ms, (jb E c).getD 0 0⟩]) j) (jb (E ++ [⟨k, mv, pr, c, ms, (jb E c).getD 0 0⟩]) j).length] from ?_)
   by_cases h : j = c
   ·subst h; rw [if_pos rfl, e1, e2, List.length_drop]
   ·obtain ⟨o1, _, o2⟩ := qhc (E := E) (e := ⟨k, mv, pr, c, ms, (jb E c).getD 0 0⟩) (c := (j : Int)) (by simp only; omega)
    rw [if_neg h, o1, o2]
  ·show Go.Sx.upd _ _ _ j = _
   unfold Go.Sx.upd
   by_cases h : j = c
   ·subst h; exact (if_pos rfl).trans e1.symm
   ·obtain ⟨o1, _, o2⟩ := qhc (E := E) (e := ⟨k, mv, pr, c, ms, (jb E c).getD 0 0⟩) (c := (j : Int)) (by simp only; omega)
    exact (if_neg h).trans o1.symm
  ·show Go.Sx.upd _ _ _ j = _
   unfold Go.Sx.upd
   by_cases h : j = c
   ·subst h; rw [e2, List.length_drop]; exact if_pos rfl
   ·obtain ⟨o1, _, o2⟩ := qhc (E := E) (e := ⟨k, mv, pr, c, ms, (jb E c).getD 0 0⟩) (c := (j : Int)) (by simp only; omega)
    rw [o2]; exact if_neg h
  ·show Go.Sx.upd (α := Nat → List AV) _ _ _ j q = _
   unfold Go.Sx.upd
   by_cases h : j = c
   ·subst h
    refine (congrFun (if_pos rfl) q).trans ?_
    rw [e2]
    show encL (fun n : Nat => [iv n]) 0 (jb E j) (1 + q) = _
    unfold encL
    rw [List.getD_eq_getElem?_getD (l := List.drop 1 _), List.getElem?_drop, ← List.getD_eq_getElem?_getD]
   ·obtain ⟨o1, _, o2⟩ := qhc (E := E) (e := ⟨k, mv, pr, c, ms, (jb E c).getD 0 0⟩) (c := (j : Int)) (by simp only; omega)
    refine (congrFun (if_neg h) q).trans ?_
    rw [o2]
end Go.Proofs.YtdoaagphhjggbaaGreat
end
section
namespace Go.Proofs.YtdoaagphhjggbaaGreat
open List renaming getD_eq_getElem?_getD → zd
open Go Go.Sx Go.RowKit Go.St
set_option maxRecDepth 100000
set_option maxHeartbeats 4000000
theorem jsg (m : Md) (s t : Stt) (E : List Ev) (hE : E.length ≤ 1000000) (i : Nat) (c : Nat) (hcl : s.chans.length = m.chans.length) (hW : qde m s E) (hc : c < m.chans.length) (hq : 0 < (s.chans.getD c []).length) :
  Trip Tryz.prog 59 [.ptr 0 0, iv i, (⟨1, 0, 0, c⟩ : Mv).av, s.av, t.av] [boxG m E.length, rowE E, rowW m E, famW m E] (.tup []) [(0, boxG m (E.length + 1)), (1, rowE (E ++ [⟨2, i, -1, c, qbh s c, qbt E c⟩])), (2, rowW m (E ++ [⟨2, i, -1, c, qbh s c, qbt E c⟩])), (3, famW m (E ++ [⟨2, i, -1, c, qbh s c, qbt E c⟩]))] 4 := by
 obtain ⟨w1, w2⟩ := hW c hc
 rw [qwb (by omega)]
 have ht := jew m E hE 2 i (-1) (qbh s c) 0 c hc (decide_eq_true ⟨rfl, .inr rfl⟩) w1 (by omega)
 unfold boxG rowE rowW famW at *
 refine zL {} 300 Tryz.func59 (fun c0 rdb mpb => ?_)
 (repeat' ((conv => whnf); first | (apply zB <;> intro hb <;> (try simp [-zd] at hb) <;> try (exfalso; omega))))
 ((conv => whnf); refine zQ 300 ?_)
 (repeat' ((conv => whnf); first | refine Ob.auto ?_ | fail))
 ((conv => whnf); refine CallY.trip [0, 1, 2, 3] (ht) (by kernel_rfl) leA qa (by exact qch ⟨fun _ _ => rfl, trivial⟩) (by exact qch ⟨fun _ _ => rfl, trivial⟩) ?_)
 (repeat' ((conv => whnf); first | refine zA ?_ | fail))
 exact ⟨Le.refl _, SoLe.refl _, SoLe.refl _, SoLe.refl _, SoLe.refl _, trivial⟩
theorem jsh (m : Md) (s t : Stt) (E : List Ev) (hE : E.length ≤ 1000000) (i : Nat) (c : Nat) (hcl : s.chans.length = m.chans.length) (hW : qde m s E) (hc : c < m.chans.length) (hq : 0 < (s.chans.getD c []).length) :
  Trip Tryz.prog 59 [.ptr 0 0, iv i, (⟨2, 0, 0, c⟩ : Mv).av, s.av, t.av] [boxG m E.length, rowE E, rowW m E, famW m E] (.tup []) [(0, boxG m (E.length + 1)), (1, rowE (E ++ [⟨3, i, -1, c, qbh s c, qbt E c⟩])), (2, rowW m (E ++ [⟨3, i, -1, c, qbh s c, qbt E c⟩])), (3, famW m (E ++ [⟨3, i, -1, c, qbh s c, qbt E c⟩]))] 4 := by
 obtain ⟨w1, w2⟩ := hW c hc
 rw [qwb (by omega)]
 have ht := jev m E hE ⟨3, i, -1, c, qbh s c, ((jb E c).getD 0 0 : Nat)⟩ c hc rfl (decide_eq_true ⟨rfl, .inr rfl⟩) w1
 unfold boxG rowE rowW famW at *
 refine zL {} 300 Tryz.func59 (fun c0 rdb mpb => ?_)
 (repeat' ((conv => whnf); first | (apply zB <;> intro hb <;> (try simp [-zd] at hb) <;> try (exfalso; omega))))
 ((conv => whnf); refine zQ 300 ?_)
 (repeat' ((conv => whnf); first | refine Ob.auto ?_ | fail))
 ((conv => whnf); refine CallY.trip [0, 1, 2, 3] (ht) (by kernel_rfl) leA qa (by exact qch ⟨fun _ _ => rfl, trivial⟩) (by exact qch ⟨fun _ _ => rfl, trivial⟩) ?_)
 (repeat' ((conv => whnf); first | refine zA ?_ | fail))
 exact ⟨Le.refl _, SoLe.refl _, SoLe.refl _, SoLe.refl _, SoLe.refl _, trivial⟩
theorem jsi (m : Md) (s t : Stt) (E : List Ev) (hE : E.length ≤ 1000000) (i P e c : Nat) (hW : qde m s E) (hP : P < m.procs.length) (he : e < (m.procs.getD P pr0).edges.length) (ha : ((m.procs.getD P pr0).edges.getD e ed0).act = 2) (hx : ((m.procs.getD P pr0).edges.getD e ed0).chn = c) (hc : c < m.chans.length) (htl : t.chans.length = m.chans.length) (hq : 0 < (t.chans.getD c []).length) (hqb : (t.chans.getD c []).length ≤ 1000000) :
  Trip Tryz.prog 59 [.ptr 0 0, iv i, (⟨0, P, e, 0⟩ : Mv).av, s.av, t.av] [boxG m E.length, rowE E, rowW m E, famW m E] (.tup []) [(0, boxG m (E.length + 1)), (1, rowE (E ++ [⟨0, i, P, c, qen t c, -1⟩])), (2, rowW m (E ++ [⟨0, i, P, c, qen t c, -1⟩])), (3, famW m (E ++ [⟨0, i, P, c, qen t c, -1⟩]))] 4 := by
 obtain ⟨w1, w2⟩ := hW c hc
 have ht := jev m E hE ⟨0, i, P, c, qen t c, -1⟩ c hc rfl (decide_eq_true ⟨rfl, .inl rfl⟩) w1
 unfold boxG rowE rowW famW at *
 have hq' : 0 < (t.chans.getD ((m.procs.getD P pr0).edges.getD e ed0).chn.toNat []).length ∧ (t.chans.getD ((m.procs.getD P pr0).edges.getD e ed0).chn.toNat []).length ≤ 1000000 := by rw [hx]; exact ⟨hq, hqb⟩
 refine zL {} 300 Tryz.func59 (fun c0 rdb mpb => ?_)
 (repeat' ((conv => whnf); first | refine zO ?_ | refine Ob.auto ?_ | (refine Ob.intro (by (first | exact ⟨by omega, by omega⟩ | exact ⟨show (-9223372036854775808 : Int) ≤ ((t.chans.getD ((m.procs.getD P pr0).edges.getD e ed0).chn.toNat []).length : Int) - 1 by omega, show ((t.chans.getD ((m.procs.getD P pr0).edges.getD e ed0).chn.toNat []).length : Int) - 1 ≤ 9223372036854775807 by omega⟩ | exact ⟨show (0 : Int) ≤ ((t.chans.getD ((m.procs.getD P pr0).edges.getD e ed0).chn.toNat []).length : Int) - 1 by omega, show ((t.chans.getD ((m.procs.getD P pr0).edges.getD e ed0).chn.toNat []).length : Int) - 1 < ((t.chans.getD ((m.procs.getD P pr0).edges.getD e ed0).chn.toNat []).length : Int) by omega⟩)) ?_) | refine zD 300 ?_ | (apply zB <;> intro hb <;> (try simp [-zd] at hb) <;> try (exfalso; omega))))
 ((conv => whnf); refine qfm (fun _ => rfl) 300 [0, 1, 2, 3] (ht) (by kernel_rfl) ⟨Le.refl _, Le.agg ⟨Le.refl _, Le.refl _, Le.refl _, Le.of_eq (congrArg (AV.int _) hx), Le.of_eq (congrArg (AV.int _) ?_), Le.refl _, trivial⟩, trivial⟩ qa (by exact qch ⟨fun _ _ => rfl, trivial⟩) (by exact qch ⟨fun _ _ => rfl, trivial⟩) (by kernel_rfl) ?_)
 ·show (t.chans.getD ((m.procs.getD P pr0).edges.getD e ed0).chn.toNat []).getD (((t.chans.getD ((m.procs.getD P pr0).edges.getD e ed0).chn.toNat []).length : Int) - 1).toNat 0 = qen t c
  unfold qen
  rw [hx, show ∀ n : Nat, ((n : Int) - 1).toNat = n - 1 from fun n => by omega]
 exact ⟨Le.refl _, SoLe.refl _, SoLe.refl _, SoLe.refl _, SoLe.refl _, trivial⟩
theorem jsj (m : Md) (s t : Stt) (E : List Ev) (hE : E.length ≤ 1000000) (i P e c : Nat) (hW : qde m s E) (hP : P < m.procs.length) (he : e < (m.procs.getD P pr0).edges.length) (ha : ((m.procs.getD P pr0).edges.getD e ed0).act = 3) (hx : ((m.procs.getD P pr0).edges.getD e ed0).chn = c) (hc : c < m.chans.length) (hcl : s.chans.length = m.chans.length) (hq : 0 < (s.chans.getD c []).length) :
  Trip Tryz.prog 59 [.ptr 0 0, iv i, (⟨0, P, e, 0⟩ : Mv).av, s.av, t.av] [boxG m E.length, rowE E, rowW m E, famW m E] (.tup []) [(0, boxG m (E.length + 1)), (1, rowE (E ++ [⟨1, i, P, c, qbh s c, qbt E c⟩])), (2, rowW m (E ++ [⟨1, i, P, c, qbh s c, qbt E c⟩])), (3, famW m (E ++ [⟨1, i, P, c, qbh s c, qbt E c⟩]))] 4 := by
 obtain ⟨w1, w2⟩ := hW c hc
 rw [qwb (by omega)]
 have ht := jew m E hE 1 i P (qbh s c) 0 c hc (decide_eq_true ⟨rfl, .inl rfl⟩) w1 (by omega)
 unfold boxG rowE rowW famW at *
 have hq' : 0 < (s.chans.getD ((m.procs.getD P pr0).edges.getD e ed0).chn.toNat []).length := by rw [hx]; exact hq
 refine zL {} 300 Tryz.func59 (fun c0 rdb mpb => ?_)
 (repeat' ((conv => whnf); first | refine zO ?_ | refine Ob.auto ?_ | refine zD 300 ?_ | (apply zB <;> intro hb <;> (try simp [-zd] at hb) <;> try (exfalso; omega))))
 ((conv => whnf); refine qfm (fun _ => rfl) 300 [0, 1, 2, 3] (ht) (by kernel_rfl) ⟨Le.refl _, Le.agg ⟨Le.refl _, Le.refl _, Le.refl _, Le.of_eq (congrArg (AV.int _) hx), Le.of_eq (congrArg (AV.int _) ?_), Le.refl _, trivial⟩, trivial⟩ qa (by exact qch ⟨fun _ _ => rfl, trivial⟩) (by exact qch ⟨fun _ _ => rfl, trivial⟩) (by kernel_rfl) ?_)
 ·show (s.chans.getD ((m.procs.getD P pr0).edges.getD e ed0).chn.toNat []).getD 0 0 = qbh s c
  unfold qbh
  rw [hx]
 exact ⟨Le.refl _, SoLe.refl _, SoLe.refl _, SoLe.refl _, SoLe.refl _, trivial⟩
theorem jsk (m : Md) (s t : Stt) (E : List Ev) (i P e : Nat) (hP : P < m.procs.length) (he : e < (m.procs.getD P pr0).edges.length) (h2 : ((m.procs.getD P pr0).edges.getD e ed0).act ≠ 2) (h3 : ((m.procs.getD P pr0).edges.getD e ed0).act ≠ 3) :
  Trip Tryz.prog 59 [.ptr 0 0, iv i, (⟨0, P, e, 0⟩ : Mv).av, s.av, t.av] [boxG m E.length, rowE E, rowW m E, famW m E] (.tup []) [(0, boxG m E.length), (1, rowE E), (2, rowW m E), (3, famW m E)] 4 := by
 unfold boxG rowE rowW famW at *
 refine zL {} 300 Tryz.func59 (fun c0 rdb mpb => ?_)
 (repeat' ((conv => whnf); first | refine zO ?_ | refine Ob.auto ?_ | refine zD 300 ?_ | (apply zB <;> intro hb <;> (try simp [-zd] at hb) <;> try (exfalso; omega))))
 exact ⟨Le.refl _, SoLe.refl _, SoLe.refl _, SoLe.refl _, SoLe.refl _, trivial⟩
end Go.Proofs.YtdoaagphhjggbaaGreat
end
