/- Some texts of the library, one behind the other. -/
import Derived.Test.YtdoaagphhjggbaaGreatQ38
import Derived.Test.YtdoaagphhjggbaaGreatQ31
import Derived.Test.YtdoaagphhjggbaaGreatQ2
section
namespace Go.Proofs.YtdoaagphhjggbaaGreat
open List renaming getD_eq_getElem?_getD → zd
open Go Go.Sx Go.RowKit Go.St
set_option maxRecDepth 100000
set_option maxHeartbeats 4000000
theorem jrr (s : Stt) (hs : SSz s) : Con Tryz.prog 51 [s.av] s.av := by
 have ha := hs.a
 have hv := hs.v
 have hc := hs.c
 have hl := hs.l
 refine zK {} 300 Tryz.func51 (fun c0 rdb => ?_)
 ((conv => whnf); refine qat (fun _ => rfl) (by kernel_rfl) 300 [.new [ints s.at_] (.own 0 0 0 s.at_.length) [(0, .row [] 3 1 0 s.at_.length (encL (fun n => [iv n]) 0 s.at_))] 1, .new [ints s.vars] (.own 0 0 0 s.vars.length) [(0, .row [] 3 1 0 s.vars.length (encL (fun n => [iv n]) 0 s.vars))] 1] (by kernel_rfl) ?_)
 (repeat' ((conv => whnf); first | refine Ob.auto ?_ | (refine Ob.intro (by (first | (refine ⟨by omega, by omega, by omega, ?_⟩; dsimp only; refine Int.le_trans (Int.mul_le_mul_of_nonneg_right (?_ : _ ≤ (4000001 : Int)) (Int.natCast_nonneg _)) (by decide +kernel); omega) | exact ⟨qkk s.at_ hs.a, by rfl, LeL.refl _, by kernel_rfl, by kernel_rfl, by exact qb rfl⟩ | exact ⟨qkk s.vars hs.v, by rfl, LeL.refl _, by kernel_rfl, by kernel_rfl, by exact qb rfl⟩)) ?_) | fail))
 ((conv => whnf); refine qo (fun _ => rfl) 300 1 (fun i : Nat => [(22, iv i)]) (fun i => [(13, .row [] 23 1 0 s.chans.length (fun k => [if k < i then ints (s.chans.getD k []) else .nils]))]) (fun i => i ≤ s.chans.length) (fun i => s.chans.length - i) (0) (by omega) qa ⟨qaz (fun k _ => by rw [if_neg (Nat.not_lt_zero k)]; rfl), trivial⟩ (fun _ => rfl) (by kernel_rfl) ?_; (conv => whnf))
 intro i hi
 (repeat' ((conv => whnf); first | refine Ob.auto ?_ | (apply zB <;> intro hb <;> (try simp [-zd] at hb) <;> try (exfalso; omega))))
 ·((conv => whnf); refine qat (fun _ => rfl) (by kernel_rfl) 300 [.con (ints (s.chans.getD i []))] (by kernel_rfl) ?_)
  (repeat' ((conv => whnf); first | refine Ob.auto ?_ | (refine Ob.intro (by (first | exact ⟨by omega, by omega⟩ | exact ⟨_, jdu (s.chans.getD i []) (hl _ (qk _ _ _ (by omega))), by rfl, LeL.refl _⟩)) ?_) | fail))
  ((conv => whnf); refine ⟨i + 1, by omega, ⟨qa, qa⟩, ⟨qa, qa⟩, ?_⟩; (first | omega | (dsimp only; omega) | skip))
 ·obtain rfl : i = s.chans.length := by omega
  exact Le.agg ⟨Le.refl _, Le.refl _, Le.slcL rfl (fun k hk => LeL.of_eq (congrArg (fun x : AV => [x]) (if_pos hk))), Le.refl _, trivial⟩
def boxT (n : Nat) : SO := .box 59 [.own 1 0 0 n]
def rowT (l : List Stt) : SO := .row [] 34 4 0 l.length (encL Stt.cells st0z l)
theorem jrs (i : Int) (s t : Stt) (hs : SSz t) (L : List Stt) (hL : L.length ≤ 1000000) : Trip Tryz.prog 57 [iv i, s.av, t.av, .ptr 0 0] [boxT L.length, rowT L] (.tup []) [(0, boxT (L.length + 1)), (1, rowT (L ++ [t]))] 2 := by
 unfold boxT rowT
 refine zL {lit := true} 300 Tryz.func57 (fun c0 rdb mpb => ?_)
 ((conv => whnf); refine qat (fun _ => rfl) (by kernel_rfl) 300 [.con t.av] (by kernel_rfl) ?_)
 (repeat' ((conv => whnf); first | refine Ob.auto ?_ | (refine Ob.intro (by (first | exact ⟨_, jrr t hs, by rfl, LeL.refl _⟩ | (refine ⟨by omega, by omega, by omega, ?_⟩; dsimp only; refine Int.le_trans (Int.mul_le_mul_of_nonneg_right (?_ : _ ≤ (4000001 : Int)) (Int.natCast_nonneg _)) (by decide +kernel); omega))) ?_) | fail))
 exact ⟨Le.refl _, ⟨rfl, Le.refl _, trivial⟩, qlu Stt.cells st0z rfl rfl, trivial⟩
theorem jrt (m : Md) (hM : ModOk m) (h0 : qn m (qx m) = true) (l : List Mv) (hl : l.length ≤ 1000000) : Trip Tryz.prog 56 [m.av, qgu l, .fn 57 [.ptr 0 0]] [boxT 1, rowT [qx m]] (.tup [(stN m l (nF m l)).av, iv (nF m l)]) [(0, boxT (nF m l + 1)), (1, rowT (qdc m l))] 2 := by
 unfold boxT rowT
 refine zL {} 300 Tryz.func56 (fun c0 rdb mpb => ?_)
 (repeat' ((conv => whnf); first | refine zC 300 (qwb m hM.ok) ?_ | fail))
 ((conv => whnf); refine qo (fun _ => rfl) 300 1 (fun i : Nat => [(17, iv i)]) (fun i => [(4, .box 34 (stN m l i).cells), (0, .box 59 [.own 1 0 0 ((List.range (i + 1)).map (stN m l)).length]), (1, .row [] 34 4 0 ((List.range (i + 1)).map (stN m l)).length (encL Stt.cells st0z ((List.range (i + 1)).map (stN m l))))]) (fun i => i ≤ l.length ∧ ∀ j, j < i → okN m l j = true) (fun i => l.length - i) (0) (⟨Nat.zero_le _, fun j hj => absurd hj (Nat.not_lt_zero j)⟩) qa qa (fun _ => rfl) (by kernel_rfl) ?_; (conv => whnf))
 rintro i ⟨hi, hp⟩
 have hf := qki hM h0 hp
 have hlen : ((List.range (i + 1)).map (stN m l)).length = i + 1 := by simp
 have hsn : (List.range (i + 1)).map (stN m l) ++ [stN m l (i + 1)] = (List.range (i + 1 + 1)).map (stN m l) := by rw [List.range_succ (n := i + 1), List.map_append]; rfl
 have hst : nF m l = i → (List.range (i + 1)).map (stN m l) = qdc m l := fun h => by unfold qdc; rw [h]
 generalize (List.range (i + 1)).map (stN m l) = L at hlen hsn hst ⊢
 by_cases hok : okN m l i = true
 ·have hdo := jeg hM hf hok
  have hf1 := qki hM h0 (jx hp hok)
  (repeat' ((conv => whnf); first | refine Ob.auto ?_ | refine zC 300 (hdo) ?_ | (apply zB <;> intro hb <;> (try simp [-zd] at hb) <;> try (exfalso; omega))))
  ·((conv => whnf); refine zT 300 [0, 1] (jrs i (stN m l i) (stN m l (i + 1)) (qbz hM hf1) L (by omega)) qa ?_)
   (repeat' ((conv => whnf); first | refine Ob.auto ?_ | fail))
   ((conv => whnf); refine ⟨i + 1, ⟨by omega, jx hp hok⟩, ⟨qa, ⟨⟨rfl, Le.refl _, Le.refl _, Le.refl _, Le.refl _, trivial⟩, ⟨rfl, qri hsn 1, trivial⟩, qkj Stt.cells st0z hsn, trivial⟩⟩, ⟨qa, qa⟩, ?_⟩; (first | omega | (dsimp only; omega) | skip))
  ·obtain rfl : i = l.length := by omega
   have hn : nF m l = l.length := qiy hi hp (.inl rfl)
   rw [← hst hn, hn]
   exact ⟨Le.tup ⟨Le.refl _, Le.refl _, trivial⟩, ⟨rfl, Le.of_eq (by rw [hlen]), trivial⟩, SoLe.refl _, trivial⟩
 ·have hdo := jeh hM hf (Bool.not_eq_true _ ▸ hok)
  (repeat' ((conv => whnf); first | refine Ob.auto ?_ | refine zC 300 (hdo) ?_ | (apply zB <;> intro hb <;> (try simp [-zd] at hb) <;> try (exfalso; omega))))
  ·have hn : nF m l = i := qiy hi hp (.inr (Bool.not_eq_true _ ▸ hok))
   rw [← hst hn, hn]
   exact ⟨Le.tup ⟨Le.refl _, Le.refl _, trivial⟩, ⟨rfl, Le.of_eq (by rw [hlen]), trivial⟩, SoLe.refl _, trivial⟩
  ·obtain rfl : i = l.length := by omega
   have hn : nF m l = l.length := qiy hi hp (.inl rfl)
   rw [← hst hn, hn]
   exact ⟨Le.tup ⟨Le.refl _, Le.refl _, trivial⟩, ⟨rfl, Le.of_eq (by rw [hlen]), trivial⟩, SoLe.refl _, trivial⟩
theorem jei (m : Md) (hM : ModOk m) (h0 : qn m (qx m) = true) (l : List Mv) (hl : l.length ≤ 1000000) : Con Tryz.prog 30 [m.av, qgu l] (jqf (qdc m l)) := by
 refine zK {lit := true} 300 Tryz.func30 (fun c0 rdb => ?_)
 (repeat' ((conv => whnf); first | refine zC 300 (qwb m hM.ok) ?_ | fail))
 ((conv => whnf); refine zT 300 [2, 1] (jrt m hM h0 l hl) (?_) ?_)
 ·exact ⟨⟨rfl, Le.refl _, trivial⟩, ⟨⟨rfl, rfl, rfl⟩, rfl, rfl, fun k hk => match k, hk with | 0, _ => LeL.refl _ | k + 1, hk => absurd (show k + 1 < 1 from hk) (by omega)⟩, trivial⟩
 have hlen : (qdc m l).length = nF m l + 1 := by simp [qdc]
 (repeat' ((conv => whnf); first | refine Ob.intro ?_ ?_ | fail))
 ·exact ⟨trivial, ⟨rfl, hlen.symm⟩, trivial⟩
 ·exact Le.slc hlen.symm (fun _ _ => rfl)
end Go.Proofs.YtdoaagphhjggbaaGreat
end
section
namespace Go.St
open Go Go.Sx
def qbf (s : Stt) (c : Int) : Int := (s.chans.getD c.toNat []).getD 0 0
def qej (s : Stt) (c : Int) : Int := (s.chans.getD c.toNat []).getD ((s.chans.getD c.toNat []).length - 1) 0
def edOf (m : Md) (v : Mv) : Ed := (edgesOf m v.proc.toNat).getD v.edge.toNat ed0
def evOf (m : Md) (s t : Stt) (i : Nat) (v : Mv) (E : List Ev) : Option Ev :=
 if v.kind = 1 then some ⟨2, i, -1, v.chn, qbf s v.chn, qbq E v.chn⟩
 else if v.kind = 2 then some ⟨3, i, -1, v.chn, qbf s v.chn, qbq E v.chn⟩
 else if (edOf m v).act = 2 then some ⟨0, i, v.proc, (edOf m v).chn, qej t (edOf m v).chn, -1⟩
 else if (edOf m v).act = 3 then some ⟨1, i, v.proc, (edOf m v).chn, qbf s (edOf m v).chn, qbq E (edOf m v).chn⟩
 else none
def evN (m : Md) (l : List Mv) : Nat → List Ev
 | 0 => []
 | i + 1 => evN m l i ++ (evOf m (stN m l i) (stN m l (i + 1)) i (l.getD i {}) (evN m l i)).toList
def qcf (m : Md) (l : List Mv) : List Ev := evN m l (nF m l)
theorem qwc (m : Md) (l : List Mv) : ∀ i, (evN m l i).length ≤ i
 | 0 => Nat.le_refl _
 | i + 1 => by
  have := qwc m l i
  unfold evN
  rw [List.length_append]
  have : (evOf m (stN m l i) (stN m l (i + 1)) i (l.getD i {}) (evN m l i)).toList.length ≤ 1 := by
   cases evOf m (stN m l i) (stN m l (i + 1)) i (l.getD i {}) (evN m l i) <;> simp
  omega
def qdd (m : Md) (s : Stt) (E : List Ev) : Prop := ∀ c : Nat, c < m.chans.length → jt E c ≤ (qbp E c).length ∧ (ja E c).length = (s.chans.getD c []).length
theorem qwd {E : List Ev} {e : Ev} {c : Int} (hp : qgw c e = true) (hg : jt E c ≤ (qbp E c).length) : jt (E ++ [e]) c = jt E c ∧ jt (E ++ [e]) c ≤ (qbp (E ++ [e]) c).length ∧ ja (E ++ [e]) c = ja E c ++ [E.length] := by
 have ht : qhx c e = false := by
  unfold qgw at hp
  unfold qhx
  have := of_decide_eq_true hp
  exact decide_eq_false (by omega)
 have h1 : jt (E ++ [e]) c = jt E c := by rw [qvs, ht]; rfl
 have h2 : qbp (E ++ [e]) c = qbp E c ++ [E.length] := by rw [qvr, if_pos hp]
 refine ⟨h1, by rw [h1, h2, List.length_append]; omega, ?_⟩
 unfold ja
 rw [h1, h2, List.drop_append_of_le_length hg]
theorem jej {E : List Ev} {e : Ev} {c : Int} (ht : qhx c e = true) (hg : jt E c ≤ (qbp E c).length) (hw : 0 < (ja E c).length) : jt (E ++ [e]) c = jt E c + 1 ∧ jt (E ++ [e]) c ≤ (qbp (E ++ [e]) c).length ∧ ja (E ++ [e]) c = (ja E c).drop 1 := by
 have hp : qgw c e = false := by
  unfold qhx at ht
  unfold qgw
  have := of_decide_eq_true ht
  exact decide_eq_false (by omega)
 have h1 : jt (E ++ [e]) c = jt E c + 1 := by rw [qvs, ht]; rfl
 have h2 : qbp (E ++ [e]) c = qbp E c := by rw [qvr, hp]; simp
 unfold ja at hw
 rw [List.length_drop] at hw
 refine ⟨h1, by rw [h1, h2]; omega, ?_⟩
 unfold ja
 rw [h1, h2, List.drop_drop]
theorem qgy {E : List Ev} {e : Ev} {c : Int} (h : e.ch ≠ c) : jt (E ++ [e]) c = jt E c ∧ qbp (E ++ [e]) c = qbp E c ∧ ja (E ++ [e]) c = ja E c := by
 have hp : qgw c e = false := decide_eq_false (fun k => h k.1)
 have ht : qhx c e = false := decide_eq_false (fun k => h k.1)
 have h1 : jt (E ++ [e]) c = jt E c := by rw [qvs, ht]; rfl
 have h2 : qbp (E ++ [e]) c = qbp E c := by rw [qvr, hp]; simp
 exact ⟨h1, h2, by unfold ja; rw [h1, h2]⟩
end Go.St
end
section
namespace Go.Proofs.YtdoaagphhjggbaaGreat
open Go Go.Sx Go.RowKit Go.St
set_option maxRecDepth 100000
set_option maxHeartbeats 4000000
def boxG (m : Md) (n : Nat) : SO := .box 94 (m.cells ++ [.own 1 0 0 n, .own 2 0 0 m.chans.length])
def rowE (E : List Ev) : SO := .row [] 70 6 0 E.length (encL Ev.cells {} E)
def rowW (m : Md) (E : List Ev) : SO := .row [3] 23 1 0 m.chans.length (fun k => [.own 3 k (jt E k) (ja E k).length])
def famW (m : Md) (E : List Ev) : SO := .fam 3 1 m.chans.length (fun k => jt E k) (fun k => (ja E k).length) (fun k => encL (fun n : Nat => [iv n]) 0 (ja E k))
theorem jru (E : List Ev) (c : Int) : (ja E c).length ≤ E.length := by
 unfold ja qbp
 rw [List.length_drop]
 have := List.length_filter_le (fun j => qgw c (E.getD j {})) (List.range E.length)
 rw [List.length_range] at this
 omega
theorem jrv {L : List Nat} {x : Nat} {g : Nat → List AV} (hg : g 0 = [iv x]) {j : Nat} (hj : j < L.length + 1) : appF L.length (encL (fun n : Nat => [iv n]) 0 L) 1 g j = encL (fun n : Nat => [iv n]) 0 (L ++ [x]) j := by
 unfold appF encL
 rw [qii]
 by_cases hl : j < L.length
 ·rw [if_pos hl, if_pos hl]
 ·obtain rfl : j = L.length := by omega
  rw [if_neg hl, if_neg hl, if_pos rfl, if_pos (by omega), Nat.sub_self, hg]
theorem jek (m : Md) (E : List Ev) (hE : E.length ≤ 1000000) (e : Ev) (c : Nat) (hc : c < m.chans.length) (hec : e.ch = c) (hp : qgw c e = true) (hg : jt E c ≤ (qbp E c).length) : Trip Tryz.prog 85 [.ptr 0 0, e.av] [boxG m E.length, rowE E, rowW m E, famW m E] (.tup []) [(0, boxG m (E.length + 1)), (1, rowE (E ++ [e])), (2, rowW m (E ++ [e])), (3, famW m (E ++ [e]))] 4 := by
 obtain ⟨k, mv, pr, ch, ms, fr⟩ := e
 simp only at hec
 subst hec
 unfold boxG rowE rowW famW
 refine zL {lit := true} 300 Tryz.func85 (fun c0 rdb mpb => ?_)
 (repeat' ((conv => whnf); first | refine zO ?_ | refine Ob.auto ?_ | refine zD 300 ?_ | refine Ob.intro ?_ ?_ | fail))
 ·have hwl := jru E c
  refine ⟨hc, ⟨rfl, rfl⟩, ⟨rfl, rfl⟩, show (ja E c).length + 1 ≤ 9223372036854775807 by omega, ?_⟩
  refine Nat.le_trans (Nat.mul_le_mul_right _ (show (ja E c).length + 1 ≤ 4000001 by omega)) ?_
  dsimp only; decide +kernel
 ·exact ⟨⟨⟨rfl, rfl⟩, hc⟩, hc, by simp [upd], by simp [upd]⟩
 ·obtain ⟨e1, _, e2⟩ := qwd hp hg
  refine ⟨Le.refl _, ⟨rfl, LeL.refl _⟩, qlu Ev.cells {} rfl rfl, ⟨⟨rfl, rfl, rfl⟩, rfl, rfl, fun j hj => ?_⟩, qeh (fun j hj => ?_) (fun j hj => ?_) (fun j q hj hq => ?_), trivial⟩
  ·refine LeL.of_eq (show (if j = c then [AV.own 3 c (jt E c) ((ja E c).length + 1)] else [AV.own 3 j (jt E j) (ja E j).length]) = [AV.own 3 j (jt (E ++ [⟨k, mv, pr, c, ms, fr⟩]) j) (ja (E ++ [⟨k, mv, pr, c, ms, fr⟩]) j).length] from ?_)
   by_cases h : j = c
   ·subst h; rw [if_pos rfl, e1, e2, List.length_append]; rfl
   ·obtain ⟨o1, _, o2⟩ := qgy (E := E) (e := ⟨k, mv, pr, c, ms, fr⟩) (c := (j : Int)) (by simp only; omega)
    rw [if_neg h, o1, o2]
  ·show Go.Sx.upd _ _ _ j = _
   unfold Go.Sx.upd
   by_cases h : j = c
   ·subst h; exact (if_pos rfl).trans e1.symm
   ·obtain ⟨o1, _, o2⟩ := qgy (E := E) (e := ⟨k, mv, pr, c, ms, fr⟩) (c := (j : Int)) (by simp only; omega)
    exact (if_neg h).trans o1.symm
  ·show Go.Sx.upd _ _ _ j = _
   unfold Go.Sx.upd
   by_cases h : j = c
   ·subst h; rw [e2, List.length_append]; exact if_pos rfl
   ·obtain ⟨o1, _, o2⟩ := qgy (E := E) (e := ⟨k, mv, pr, c, ms, fr⟩) (c := (j : Int)) (by simp only; omega)
    rw [o2]; exact if_neg h
  ·have hq : q < Go.Sx.upd (fun k => (ja E k).length) c ((ja E c).length + 1) j := hq
   show Go.Sx.upd (α := Nat → List AV) _ _ _ j q = _
   unfold Go.Sx.upd at hq ⊢
   by_cases h : j = c
   ·subst h
    rw [if_pos rfl] at hq
    refine (congrFun (if_pos rfl) q).trans ?_
    rw [e2]
    exact jrv rfl hq
   ·obtain ⟨o1, _, o2⟩ := qgy (E := E) (e := ⟨k, mv, pr, c, ms, fr⟩) (c := (j : Int)) (by simp only; omega)
    refine (congrFun (if_neg h) q).trans ?_
    rw [o2]
theorem jel (m : Md) (E : List Ev) (hE : E.length ≤ 1000000) (k mv pr ms fr : Int) (c : Nat) (hc : c < m.chans.length) (hp : qhx c ⟨k, mv, pr, c, ms, (ja E c).getD 0 0⟩ = true) (hg : jt E c ≤ (qbp E c).length) (hw : 0 < (ja E c).length) :
  Trip Tryz.prog 84 [.ptr 0 0, .agg [iv k, iv mv, iv pr, iv c, iv ms, iv fr]] [boxG m E.length, rowE E, rowW m E, famW m E] (.tup []) [(0, boxG m (E.length + 1)), (1, rowE (E ++ [⟨k, mv, pr, c, ms, (ja E c).getD 0 0⟩])), (2, rowW m (E ++ [⟨k, mv, pr, c, ms, (ja E c).getD 0 0⟩])), (3, famW m (E ++ [⟨k, mv, pr, c, ms, (ja E c).getD 0 0⟩]))] 4 := by
 unfold boxG rowE rowW famW
 refine zL {lit := true, cuts := [29]} 300 Tryz.func84 (fun c0 rdb mpb => ?_)
 (repeat' ((conv => whnf); first | refine zO ?_ | refine Ob.auto ?_ | refine zD 300 ?_ | refine Ob.intro ?_ ?_ | fail))
 ·exact ⟨hc, ⟨rfl, rfl⟩, by decide, show (1 : Int) ≤ ((ja E c).length : Int) by omega⟩
 ·exact ⟨⟨⟨rfl, rfl⟩, hc⟩, hc, by simp [upd], by simp [upd]⟩
 ·obtain ⟨e1, _, e2⟩ := jej hp hg hw
  refine ⟨Le.refl _, ⟨rfl, LeL.refl _⟩, qlu Ev.cells {} rfl rfl, ⟨⟨rfl, rfl, rfl⟩, rfl, rfl, fun j hj => ?_⟩, qeh (fun j hj => ?_) (fun j hj => ?_) (fun j q hj hq => ?_), trivial⟩
  ·refine LeL.of_eq (show (if j = c then [AV.own 3 c (jt E c + 1) ((ja E c).length - 1)] else [AV.own 3 j (jt E j) (ja E j).length]) = [AV.own 3 j (jt (E ++ [⟨k, mv, pr, c, ms, (ja E c).getD 0 0⟩]) j) (ja (E ++ [⟨k, mv, pr, c, ms, (ja E c).getD 0 0⟩]) j).length] from ?_)
   by_cases h : j = c
   ·subst h; rw [if_pos rfl, e1, e2, List.length_drop]
   ·obtain ⟨o1, _, o2⟩ := qgy (E := E) (e := ⟨k, mv, pr, c, ms, (ja E c).getD 0 0⟩) (c := (j : Int)) (by simp only; omega)
    rw [if_neg h, o1, o2]
  ·show Go.Sx.upd _ _ _ j = _
   unfold Go.Sx.upd
   by_cases h : j = c
   ·subst h; exact (if_pos rfl).trans e1.symm
   ·obtain ⟨o1, _, o2⟩ := qgy (E := E) (e := ⟨k, mv, pr, c, ms, (ja E c).getD 0 0⟩) (c := (j : Int)) (by simp only; omega)
    exact (if_neg h).trans o1.symm
  ·show Go.Sx.upd _ _ _ j = _
   unfold Go.Sx.upd
   by_cases h : j = c
   ·subst h; rw [e2, List.length_drop]; exact if_pos rfl
   ·obtain ⟨o1, _, o2⟩ := qgy (E := E) (e := ⟨k, mv, pr, c, ms, (ja E c).getD 0 0⟩) (c := (j : Int)) (by simp only; omega)
    rw [o2]; exact if_neg h
  ·show Go.Sx.upd (α := Nat → List AV) _ _ _ j q = _
   unfold Go.Sx.upd
   by_cases h : j = c
   ·subst h
    refine (congrFun (if_pos rfl) q).trans ?_
    rw [e2]
    show encL (fun n : Nat => [iv n]) 0 (ja E j) (1 + q) = _
    unfold encL
    rw [List.getD_eq_getElem?_getD (l := List.drop 1 _), List.getElem?_drop, ← List.getD_eq_getElem?_getD]
   ·obtain ⟨o1, _, o2⟩ := qgy (E := E) (e := ⟨k, mv, pr, c, ms, (ja E c).getD 0 0⟩) (c := (j : Int)) (by simp only; omega)
    refine (congrFun (if_neg h) q).trans ?_
    rw [o2]
end Go.Proofs.YtdoaagphhjggbaaGreat
end
