/- Some texts of the library, one behind the other. -/
import Derived.Test.YtdoaagphhjggbaaGreatQ36
import Derived.Test.YtdoaagphhjggbaaGreatQ35
import Derived.Test.YtdoaagphhjggbaaGreatQ2
section
/- Contracts: what a move does. -/
namespace Go.Proofs.YtdoaagphhjggbaaGreat
open List renaming getD_eq_getElem?_getD → zd
open Go Go.Sx Go.RowKit Go.St
set_option maxRecDepth 100000
set_option maxHeartbeats 4000000
theorem do_no (m : Md) (hM : ModOk m) (s : Stt) (hs : SSz s) (v : Mv) (h : doB m s v = false) : Con Tryz.prog 22 [m.av, s.av, v.av] (.tup [.agg [.nils, .nils, .nils, iv 0], .bool false]) := by
 unfold doB at h
 by_cases hf : qq m s = true
 ·rw [hf, Bool.true_and] at h
  have hal := qog m hM s hf v
  have hft := qdv m s hs
  rw [h] at hal
  rw [hf] at hft
  refine qc (T := tab Tryz.prog) (C := {}) 300 (fun _ => rfl) Tryz.func22 rfl (by kernel_rfl) (by kernel_rfl) (fun c0 rdb => ?_)
  (repeat' ((conv => whnf); first | refine Ob.auto ?_ | refine zC 300 (hft) ?_ | refine zG 300 (fun hg => hal) ?_ | (apply zB <;> intro hb <;> (try simp [-zd] at hb) <;> try (exfalso; omega))))
  exact Le.refl _
 ·have hft := qdv m s hs
  rw [Bool.not_eq_true] at hf
  rw [hf] at hft
  refine qc (T := tab Tryz.prog) (C := {}) 300 (fun _ => rfl) Tryz.func22 rfl (by kernel_rfl) (by kernel_rfl) (fun c0 rdb => ?_)
  (repeat' ((conv => whnf); first | refine Ob.auto ?_ | refine zC 300 (hft) ?_ | refine zG 300 (fun hg => (absurd hg (by decide) : Con Tryz.prog 50 [m.av, s.av, v.av] (.bool false))) ?_ | (apply zB <;> intro hb <;> (try simp [-zd] at hb) <;> try (exfalso; omega))))
  exact Le.refl _
theorem qoh {s : Stt} {c : Nat} (hc : c < s.chans.length) (j : Nat) : LeL (if j = c then [AV.slc 1 ((s.chans.getD c []).length - 1) fun i => encL (fun n => [iv n]) 0 (s.chans.getD c []) (1 + i)] else encL (fun c => [ints c]) [] s.chans j) (encL (fun c => [ints c]) [] (s.chans.set c ((s.chans.getD c []).drop 1)) j) := by
 rw [← qbz (fun c => [ints c]) [] s.chans c _ hc j]
 by_cases hj : j = c
 ·rw [if_pos hj, if_pos hj]
  refine ⟨Le.slc (by simp) (fun q _ => ?_), trivial⟩
  unfold encL
  rw [zd (l := List.drop 1 _), List.getElem?_drop, ← zd]
 ·rw [if_neg hj, if_neg hj]; exact LeL.refl _
theorem jqf (m : Md) (hM : ModOk m) (s : Stt) (v : Mv) (hf : qq m s = true) (h : qah m s v = true) (hk : v.kind = 1) : Con Tryz.prog 22 [m.av, s.av, v.av] (.tup [(qcc m s v).av, .bool true]) := by
 have hs := qbt hM hf
 have hal := qog m hM s hf v
 have hft := qdv m s hs
 rw [h] at hal
 rw [hf] at hft
 unfold qah at h
 rw [if_neg (by omega), if_pos (.inl hk), if_pos hk, Bool.and_eq_true] at h
 obtain ⟨h2, h3⟩ := h
 have h2 := of_decide_eq_true h2
 have hcl := ((jj m s).1 hf).1.2.2.1
 have hq : 0 < (s.chans.getD v.chn.toNat []).length := by
  unfold qjw qlen at h3
  simp only [Bool.and_eq_true, decide_eq_true_eq, Int.toNat_natCast] at h3
  omega
 have hst : qcc m s v = { s with chans := s.chans.set v.chn.toNat ((s.chans.getD v.chn.toNat []).drop 1), holder := -1 } := if_pos hk
 rw [hst]
 refine qc (T := tab Tryz.prog) (C := {}) 300 (fun _ => rfl) Tryz.func22 rfl (by kernel_rfl) (by kernel_rfl) (fun c0 rdb => ?_)
 (repeat' ((conv => whnf); first | refine Ob.auto ?_ | refine zC 300 (hft) ?_ | refine zG 300 (fun hg => hal) ?_ | (apply zB <;> intro hb <;> (try simp [-zd] at hb) <;> try (exfalso; omega))))
 ((conv => whnf); refine zT 300 [] (jdq s hs) qa ?_)
 (repeat' ((conv => whnf); first | refine zO ?_ | refine Ob.auto ?_ | refine zD 300 ?_ | (apply zB <;> intro hb <;> (try simp [-zd] at hb) <;> try (exfalso; omega))))
 exact Le.tup ⟨Le.agg ⟨Le.refl _, Le.refl _, Le.slcL (by simp) (fun j hj => qoh (by omega) j), Le.refl _, trivial⟩, Le.refl _, trivial⟩
theorem jdw (m : Md) (s : Stt) (h : Int) (p : Nat) (e : Ed) : canB m { s with holder := h } p e = canB m s p e := by
 unfold canB qlen
 simp only [jdu]
theorem jdx (m : Md) (s : Stt) (h : Int) (p : Nat) (e : Ed) : qec m { s with holder := h } p e = qec m s p e := by
 unfold qec qo
 simp only [jdu]
theorem jqg (m : Md) (hM : ModOk m) (s : Stt) (P E : Nat) (hf : qq m s = true) (h : qah m s ⟨0, P, E, 0⟩ = true) (ha : ((qr m P).getD E Ed.none).act ≠ 2) : Con Tryz.prog 22 [m.av, s.av, (⟨0, P, E, 0⟩ : Mv).av] (.tup [(qec m s P ((qr m P).getD E Ed.none)).av, .bool true]) := by
 have hs := qbt hM hf
 have hal := qog m hM s hf ⟨0, P, E, 0⟩
 have hft := qdv m s hs
 rw [h] at hal
 rw [hf] at hft
 unfold qah at h
 rw [if_pos rfl, Bool.and_eq_true, Bool.and_eq_true] at h
 obtain ⟨h2, h3, h4⟩ := h
 have h3 := of_decide_eq_true h3
 simp only at h3
 have h5 : P < m.procs.length := by omega
 have h6 : E < (qr m P).length := by have := h3.2.2.2; rw [Int.toNat_natCast] at this; omega
 have h6' : E < (m.procs.getD P Pr.none).edges.length := h6
 have hed := edOk hM h5 h6
 have hf0 := qlq hf (-1) ⟨Int.le_refl _, by omega⟩
 have hfo := jqd m hM { s with holder := -1 } hf0 rfl P h5 ((qr m P).getD E Ed.none) hed (by rw [jdw]; exact h4) ha
 rw [jdx] at hfo
 refine qc (T := tab Tryz.prog) (C := {}) 300 (fun _ => rfl) Tryz.func22 rfl (by kernel_rfl) (by kernel_rfl) (fun c0 rdb => ?_)
 (repeat' ((conv => whnf); first | refine Ob.auto ?_ | refine zC 300 (hft) ?_ | refine zG 300 (fun hg => hal) ?_ | (apply zB <;> intro hb <;> (try simp [-zd] at hb) <;> try (exfalso; omega))))
 ((conv => whnf); refine zT 300 [] (jdq s hs) qa ?_)
 (repeat' ((conv => whnf); first | refine Ob.auto ?_ | (apply zB <;> intro hb <;> (try simp [-zd] at hb) <;> try (exfalso; omega))))
 ((conv => whnf); refine zQ 300 ?_)
 (repeat' ((conv => whnf); first | refine Ob.auto ?_ | fail))
 ((conv => whnf); refine CallY.trip [18, 8, 12, 17] (hfo) (by kernel_rfl) leA qa (by exact qb rfl) (by exact qb rfl) ?_)
 (repeat' ((conv => whnf); first | refine zA ?_ | refine Ob.auto ?_ | fail))
 exact Le.refl _
theorem jqh (m : Md) (hM : ModOk m) (s : Stt) (P E : Nat) (hf : qq m s = true) (h : qah m s ⟨0, P, E, 0⟩ = true) (ha : ((qr m P).getD E Ed.none).act = 2) : Con Tryz.prog 22 [m.av, s.av, (⟨0, P, E, 0⟩ : Mv).av] (.tup [(qec m s P ((qr m P).getD E Ed.none)).av, .bool true]) := by
 have hs := qbt hM hf
 have hal := qog m hM s hf ⟨0, P, E, 0⟩
 have hft := qdv m s hs
 rw [h] at hal
 rw [hf] at hft
 unfold qah at h
 rw [if_pos rfl, Bool.and_eq_true, Bool.and_eq_true] at h
 obtain ⟨h2, h3, h4⟩ := h
 have h3 := of_decide_eq_true h3
 simp only at h3
 have h5 : P < m.procs.length := by omega
 have h6 : E < (qr m P).length := by have := h3.2.2.2; rw [Int.toNat_natCast] at this; omega
 have h6' : E < (m.procs.getD P Pr.none).edges.length := h6
 have hed := edOk hM h5 h6
 have hf0 := qlq hf (-1) ⟨Int.le_refl _, by omega⟩
 have hfo := jqe m hM { s with holder := -1 } hf0 rfl P h5 ((qr m P).getD E Ed.none) hed (by rw [jdw]; exact h4) ha
 rw [jdx] at hfo
 refine qc (T := tab Tryz.prog) (C := {}) 300 (fun _ => rfl) Tryz.func22 rfl (by kernel_rfl) (by kernel_rfl) (fun c0 rdb => ?_)
 (repeat' ((conv => whnf); first | refine Ob.auto ?_ | refine zC 300 (hft) ?_ | refine zG 300 (fun hg => hal) ?_ | (apply zB <;> intro hb <;> (try simp [-zd] at hb) <;> try (exfalso; omega))))
 ((conv => whnf); refine qig (fun _ => rfl) 300 [] (jdr s hs) (by kernel_rfl) leA qa (by exact qb rfl) (by exact qlr ⟨fun _ _ => rfl, trivial⟩) (by kernel_rfl) ?_)
 (repeat' ((conv => whnf); first | refine Ob.auto ?_ | (apply zB <;> intro hb <;> (try simp [-zd] at hb) <;> try (exfalso; omega))))
 ((conv => whnf); refine zQ 300 ?_)
 (repeat' ((conv => whnf); first | refine Ob.auto ?_ | fail))
 ((conv => whnf); refine CallY.trip [24, 8, 12, 17, 23] (hfo) (by kernel_rfl) leA qa (by exact qlr ⟨fun _ _ => rfl, trivial⟩) (by exact qb rfl) ?_)
 (repeat' ((conv => whnf); first | refine zA ?_ | refine Ob.auto ?_ | fail))
 exact Le.refl _
theorem jqi (m : Md) (hM : ModOk m) (s : Stt) (c : Nat) (hf : qq m s = true) (h : qah m s ⟨2, 0, 0, c⟩ = true) : Con Tryz.prog 22 [m.av, s.av, (⟨2, 0, 0, c⟩ : Mv).av] (.tup [(qcc m s ⟨2, 0, 0, c⟩).av, .bool true]) := by
 have hs := qbt hM hf
 have hal := qog m hM s hf ⟨2, 0, 0, c⟩
 have hft := qdv m s hs
 rw [h] at hal
 rw [hf] at hft
 unfold qah at h
 rw [if_neg (by simp), if_pos (.inr rfl), Bool.and_eq_true] at h
 obtain ⟨h2, h3⟩ := h
 have h2 := of_decide_eq_true h2
 simp only at h2
 have hcl := ((jj m s).1 hf).1.2.2.1
 have hq : 0 < (s.chans.getD c []).length := by
  unfold qim qlen at h3
  simp only [Int.toNat_natCast] at h3
  rw [if_neg (by decide)] at h3
  simp only [Bool.and_eq_true, decide_eq_true_eq] at h3
  omega
 have hcc : c < s.chans.length := by omega
 have hl := hs.l _ (qj s.chans c [] hcc)
 refine qc (T := tab Tryz.prog) (C := {}) 300 (fun _ => rfl) Tryz.func22 rfl (by kernel_rfl) (by kernel_rfl) (fun c0 rdb => ?_)
 (repeat' ((conv => whnf); first | refine Ob.auto ?_ | refine zC 300 (hft) ?_ | refine zG 300 (fun hg => hal) ?_ | (apply zB <;> intro hb <;> (try simp [-zd] at hb) <;> try (exfalso; omega))))
 ((conv => whnf); refine qig (fun _ => rfl) 300 [] (jdr s hs) (by kernel_rfl) leA qa (by exact qb rfl) (by exact qlr ⟨fun _ _ => rfl, trivial⟩) (by kernel_rfl) ?_)
 (repeat' ((conv => whnf); first | refine zO ?_ | refine Ob.auto ?_ | refine zD 300 ?_ | (apply zB <;> intro hb <;> (try simp [-zd] at hb) <;> try (exfalso; omega)) | refine Ob.intro ?_ ?_ | fail))
 ·refine ⟨hcc, ⟨rfl, rfl⟩, show (s.chans.getD c []).length + 1 ≤ _ by omega, ?_⟩
  refine Nat.le_trans (Nat.mul_le_mul_right _ (show (s.chans.getD c []).length + 1 ≤ 4000001 by omega)) ?_
  dsimp only; decide +kernel
 ·exact ⟨⟨⟨rfl, rfl⟩, hcc⟩, hcc, by simp [upd], by simp [upd]⟩
 ·refine ⟨⟨⟨trivial, ⟨rfl, rfl⟩, trivial⟩, ⟨trivial, ⟨rfl, rfl⟩, trivial⟩, ⟨trivial, ⟨rfl, rfl⟩, fun k hk => ?_⟩, trivial, trivial⟩, trivial, trivial⟩
  show allP _ (if k = c then _ else _)
  by_cases hkc : k = c
  ·rw [if_pos hkc]
   exact ⟨⟨hcc, ⟨(if_pos rfl).symm, (if_pos rfl).symm⟩, trivial⟩, trivial⟩
  ·rw [if_neg hkc]
   exact ⟨⟨hk, ⟨(if_neg hkc).symm, (if_neg hkc).symm⟩, trivial⟩, trivial⟩
 have hst : qcc m s ⟨2, 0, 0, c⟩ = { s with chans := s.chans.set c (s.chans.getD c [] ++ [(s.chans.getD c []).getD 0 0]), holder := -1 } := (if_neg (by simp)).trans (if_pos rfl)
 rw [hst]
 refine Le.tup ⟨Le.agg ⟨Le.refl _, Le.refl _, Le.slcL (by simp) (fun j hj => ?_), Le.refl _, trivial⟩, Le.refl _, trivial⟩
 rw [← qbz (fun c => [ints c]) [] s.chans c _ hcc j]
 show LeL (List.map _ (if j = c then _ else _)) _
 by_cases hjc : j = c
 ·rw [if_pos hjc, if_pos hjc]
  refine ⟨Le.slc (show (s.chans.getD c []).length + 1 = _ by rw [List.length_append, List.length_singleton]) (fun q hq => ?_), trivial⟩
  have hq' : q < (s.chans.getD c []).length + 1 := hq
  refine (congrFun (if_pos rfl) q).trans ?_
  exact qls rfl hq'
 ·rw [if_neg hjc, if_neg hjc]
  refine ⟨Le.slc rfl (fun q hq => congrFun (if_neg hjc) q), trivial⟩
theorem jqj (m : Md) (hM : ModOk m) (s : Stt) (v : Mv) (hf : qq m s = true) (h : qah m s v = true) : Con Tryz.prog 22 [m.av, s.av, v.av] (.tup [(qcc m s v).av, .bool true]) := by
 by_cases hk : v.kind = 1
 ·exact jqf m hM s v hf h hk
 ·have h' := h
  unfold qah at h
  split at h
  ·rename_i h0
   rw [Bool.and_eq_true, Bool.and_eq_true] at h
   obtain ⟨ha, hb, _⟩ := h
   have h2 := of_decide_eq_true ha
   have h3 := of_decide_eq_true hb
   clear ha hb
   obtain ⟨k, p, e, c⟩ := v
   simp only at h0 h2 h3
   obtain ⟨P, rfl⟩ := Int.eq_ofNat_of_zero_le h3.1
   obtain ⟨E, rfl⟩ := Int.eq_ofNat_of_zero_le h3.2.2.1
   obtain ⟨h2, _⟩ := h2
   subst h0 h2
   have hst : qcc m s ⟨0, P, E, 0⟩ = qec m s P ((qr m P).getD E Ed.none) := rfl
   rw [hst]
   by_cases ha : ((qr m P).getD E Ed.none).act = 2
   ·exact jqh m hM s P E hf h' ha
   ·exact jqg m hM s P E hf h' ha
  ·split at h
   ·rename_i h0
    rw [Bool.and_eq_true] at h
    obtain ⟨ha, _⟩ := h
    have h2 := of_decide_eq_true ha
    clear ha
    obtain ⟨k, p, e, c⟩ := v
    simp only at h0 h2 hk
    obtain ⟨C, rfl⟩ := Int.eq_ofNat_of_zero_le h2.2.2.2.1
    obtain rfl : k = 2 := by omega
    obtain rfl : p = 0 := h2.2.1
    obtain rfl : e = 0 := h2.2.2.1
    exact jqi m hM s C hf h'
   ·cases h
theorem qvo (m : Md) (hM : ModOk m) (s : Stt) (hs : SSz s) (v : Mv) : Con Tryz.prog 22 [m.av, s.av, v.av] (.tup [(qgt m s v).av, .bool (doB m s v)]) := by
 unfold qgt
 by_cases h : doB m s v = true
 ·rw [if_pos h, h]
  unfold doB at h
  rw [Bool.and_eq_true] at h
  exact jqj m hM s v h.1 h.2
 ·rw [if_neg h]
  rw [Bool.not_eq_true] at h
  rw [h]
  exact (do_no m hM s hs v h).res (Le.tup ⟨Le.agg ⟨Le.nils _ _, Le.nils _ _, Le.nils _ _, Le.refl _, trivial⟩, Le.refl _, trivial⟩)
end Go.Proofs.YtdoaagphhjggbaaGreat
end
section
/- Contracts: all moves of a state; what is dead, or bad. -/
namespace Go.Proofs.YtdoaagphhjggbaaGreat
open List renaming getD_eq_getElem?_getD → zd
open Go Go.Sx Go.RowKit Go.St
set_option maxRecDepth 100000
set_option maxHeartbeats 4000000
def qp (m : Md) (s : Stt) (i : Nat) : List Mv := (List.range i).flatMap (fun (p : Nat) => if s.holder ≠ -1 ∧ s.holder ≠ p then [] else qhl m s p)
def qbj (m : Md) (s : Stt) (p j : Nat) : List Mv := ((List.range j).filter fun i => canB m s p ((qr m p).getD i Ed.none)).map fun (i : Nat) => ⟨0, p, i, 0⟩
def qaq (m : Md) (s : Stt) (c : Nat) : List Mv := (List.range c).flatMap (qeb m s)
theorem qoi (m : Md) (s : Stt) (i : Nat) : qp m s (i + 1) = qp m s i ++ (if s.holder ≠ -1 ∧ s.holder ≠ (i : Int) then [] else qhl m s i) := by
 unfold qp
 rw [List.range_succ, List.flatMap_append]; simp
theorem qrh (m : Md) (s : Stt) (p j : Nat) : qbj m s p (j + 1) = qbj m s p j ++ (if canB m s p ((qr m p).getD j Ed.none) = true then [⟨0, p, j, 0⟩] else []) := by
 unfold qbj
 rw [List.range_succ, List.filter_append, List.map_append]
 congr 1
 by_cases h : canB m s p ((qr m p).getD j Ed.none) = true
 ·rw [if_pos h, List.filter_cons, if_pos h]; rfl
 ·rw [if_neg h, List.filter_cons, if_neg h]; rfl
theorem qhw (m : Md) (s : Stt) (c : Nat) : qaq m s (c + 1) = qaq m s c ++ qeb m s c := by
 unfold qaq
 rw [List.range_succ, List.flatMap_append]; simp
theorem jdy (m : Md) (s : Stt) (p : Nat) : qbj m s p (qr m p).length = qhl m s p := rfl
theorem jqk (m : Md) (s : Stt) (c : Nat) : (qeb m s c).length ≤ 2 := by
 unfold qeb
 rw [List.length_append]
 split <;> split <;> simp
theorem qri (m : Md) (s : Stt) : ∀ c, (qaq m s c).length ≤ 2 * c
 | 0 => by simp [qaq]
 | c + 1 => by rw [qhw, List.length_append]; have := qri m s c; have := jqk m s c; omega
theorem qvp (m : Md) (s : Stt) (p j : Nat) : (qbj m s p j).length ≤ j := by
 unfold qbj
 rw [List.length_map]
 exact Nat.le_trans (List.length_filter_le _ _) (by simp)
theorem qrj (m : Md) (hM : ModOk m) (s : Stt) : ∀ i, i ≤ m.procs.length → (qp m s i).length ≤ 40000 * i
 | 0, _ => by simp [qp]
 | i + 1, h => by
  have h1 := qrj m hM s i (by omega)
  have h2 := (hM.psz _ (qj m.procs i Pr.none (by omega))).1
  have h3 : (qhl m s i).length ≤ (qr m i).length := qvp m s i _
  have h4 : (qr m i).length ≤ 40000 := h2
  rw [qoi, List.length_append]
  split
  ·simp; omega
  ·omega
theorem qey {α : Type} (enc : α → List AV) (d : α) {l l' : List α} (h : l = l') {ids : List Nat} {e : TypeId} {sz ep : Nat} : SoLe (.row ids e sz ep l.length (encL enc d l)) (.row ids e sz ep l'.length (encL enc d l')) := by
 subst h; exact SoLe.refl _
theorem qlt {α : Type} (enc : α → List AV) (d : α) {l l' : List α} {x : α} (h : l ++ [x] = l') {ids : List Nat} {e : TypeId} {sz ep : Nat} {g : Nat → List AV} (hg : g 0 = enc x) : SoLe (.row ids e sz ep (l.length + 1) (appF l.length (encL enc d l) 1 g)) (.row ids e sz ep l'.length (encL enc d l')) := by
 subst h; exact ⟨⟨rfl, rfl, rfl⟩, rfl, by rw [List.length_append]; rfl, qtd hg⟩
theorem jdz {α : Type} (enc : α → List AV) (d : α) {l l' : List α} {x y : α} (h : l ++ [x, y] = l') {ids : List Nat} {e : TypeId} {sz ep : Nat} {g g' : Nat → List AV} (hg : g 0 = enc x) (hg' : g' 0 = enc y) : SoLe (.row ids e sz ep (l.length + 1 + 1) (appF (l.length + 1) (appF l.length (encL enc d l) 1 g) 1 g')) (.row ids e sz ep l'.length (encL enc d l')) := by
 have h2 : l ++ [x] ++ [y] = l' := by rw [← h]; simp
 subst h2
 refine ⟨⟨rfl, rfl, rfl⟩, rfl, by rw [List.length_append, List.length_append]; rfl, fun j hj => ?_⟩
 have hlen : (l ++ [x]).length = l.length + 1 := by rw [List.length_append]; rfl
 by_cases hl : j < l.length + 1
 ·have h1 := qtd (d := d) (L := l) hg j hl
  have e1 : appF (l.length + 1) (appF l.length (encL enc d l) 1 g) 1 g' j = appF l.length (encL enc d l) 1 g j := if_pos hl
  have e2 : encL enc d (l ++ [x] ++ [y]) j = encL enc d (l ++ [x]) j := by unfold encL; rw [qjp, if_pos (by omega)]
  rw [e1, e2]; exact h1
 ·obtain rfl : j = l.length + 1 := by omega
  have e1 : appF (l.length + 1) (appF l.length (encL enc d l) 1 g) 1 g' (l.length + 1) = g' 0 := by unfold appF; rw [if_neg (by omega), if_pos (by omega), Nat.sub_self]
  have e2 : encL enc d (l ++ [x] ++ [y]) (l.length + 1) = enc y := by unfold encL; rw [qjp, if_neg (by omega), if_pos hlen.symm]
  rw [e1, e2, hg']; exact LeL.refl _
theorem jea {α : Type} {l l' : List α} {x y : α} (h : l ++ [x, y] = l') (r : Nat) : Le (.own r 0 0 (l.length + 1 + 1)) (.own r 0 0 l'.length) := by
 subst h; exact Le.of_eq (by rw [List.length_append]; rfl)
theorem qlu {α : Type} {l l' : List α} {x : α} (h : l ++ [x] = l') (r : Nat) : Le (.own r 0 0 (l.length + 1)) (.own r 0 0 l'.length) := by
 subst h; exact Le.of_eq (by rw [List.length_append]; rfl)
theorem qgu {α : Type} {l l' : List α} (h : l = l') (r : Nat) : Le (.own r 0 0 l.length) (.own r 0 0 l'.length) := by
 subst h; exact Le.refl _
theorem jeb (m : Md) (hM : ModOk m) (s : Stt) (hf : qq m s = true) : Con Tryz.prog 14 [m.av, s.av] (qzs (qcb m s)) := by
 have hs := qbt hM hf
 have hft := qdv m s hs
 rw [hf] at hft
 have h0 := ((jj m s).1 hf).1
 have hz := hM.sz
 have hpl := qrj m hM s
 have hcl := h0.2.2.1
 have hpz := hM.psz
 refine qc (T := tab Tryz.prog) (C := {owns := [(5, (51, 4))]}) 300 (fun _ => rfl) Tryz.func14 rfl (by kernel_rfl) (by kernel_rfl) (fun c0 rdb => ?_)
 (repeat' ((conv => whnf); first | refine zC 300 (hft) ?_ | (apply zB <;> intro hb <;> (try simp [-zd] at hb) <;> try (exfalso; omega))))
 ((conv => whnf); refine qn (fun _ => rfl) 300 1 (fun i : Nat => [(18, iv i), (5, .own 2 0 0 (qp m s i).length)]) (fun i => [(2, .row [] 51 4 0 (qp m s i).length (encL Mv.cells {} (qp m s i)))]) (fun i => i ≤ m.procs.length) (fun i => m.procs.length - i) (0) (Nat.zero_le _) qa ⟨qbh (fun k hk => absurd hk (Nat.not_lt_zero k)), trivial⟩ (fun _ => rfl) (by kernel_rfl) ?_; (conv => whnf))
 intro i hi
 have hpi := hpl i hi
 (repeat' ((conv => whnf); first | refine Ob.auto ?_ | (apply zB <;> intro hb <;> (try simp [-zd] at hb) <;> try (exfalso; omega))))
 ·have hp1 : qp m s (i + 1) = qp m s i := by rw [qoi, if_pos hb, List.append_nil]
  ((conv => whnf); refine ⟨i + 1, by omega, ⟨⟨Le.refl _, Le.of_eq (congrArg (fun l => AV.own 2 0 0 (List.length l)) hp1.symm), trivial⟩, ⟨qey Mv.cells {} hp1.symm, trivial⟩⟩, ⟨qa, qa⟩, ?_⟩; (first | omega | (dsimp only; omega) | skip))
 ·have hp1 : qp m s (i + 1) = qp m s i ++ qhl m s i := by rw [qoi, if_neg (fun h => h.2 (hb h.1))]
  have hil : i < m.procs.length := by assumption
  have hpe := (hpz _ (qj m.procs i Pr.none hil)).1
  have hel : (qr m i).length ≤ 40000 := hpe
  have he0 : qp m s i ++ qbj m s i 0 = qp m s i := List.append_nil _
  ((conv => whnf); refine qdc (fun _ => rfl) 300 2 [2, 3, 4, 6, 18, 33, 34, 16, 17] [0, 1, 3] (fun j : Nat => [(35, iv j), (5, .own 2 0 0 (qp m s i ++ qbj m s i j).length)]) (fun j => [(2, .row [] 51 4 0 (qp m s i ++ qbj m s i j).length (encL Mv.cells {} (qp m s i ++ qbj m s i j)))]) (fun j => j ≤ (qr m i).length) (fun j => (qr m i).length - j) (0) (Nat.zero_le _) ⟨Le.refl _, Le.of_eq (congrArg (fun l => AV.own 2 0 0 (List.length l)) he0.symm), trivial⟩ ⟨qey Mv.cells {} he0.symm, trivial⟩ (fun _ => rfl) (by kernel_rfl) ?_; (conv => whnf))
  intro j hj
  have hen := qvp m s i j
  have hsum : (qp m s i ++ qbj m s i j).length ≤ 200000 := by rw [List.length_append]; omega
  generalize hL : qp m s i ++ qbj m s i j = L at hsum ⊢
  (repeat' ((conv => whnf); first | refine Ob.auto ?_ | refine zC 300 (qvm m hM.ok s hf hs i hil ((qr m i).getD j Ed.none) (edOk hM hil (by exact hb))) ?_ | (apply zB <;> intro hb <;> (try simp [-zd] at hb) <;> try (exfalso; omega))))
  ·have hjl : j < (qr m i).length := by assumption
   have hE : L ++ [⟨0, i, j, 0⟩] = qp m s i ++ qbj m s i (j + 1) := by rw [qrh, if_pos hb, ← List.append_assoc, hL]
   ((conv => whnf); refine ⟨j + 1, hjl, ⟨⟨Le.refl _, qlu hE 2, trivial⟩, ⟨qlt Mv.cells {} hE rfl, trivial⟩⟩, ⟨qa, qa⟩, ?_⟩; (first | omega | (dsimp only; omega) | skip))
  ·have hjl : j < (qr m i).length := by assumption
   have hE : L = qp m s i ++ qbj m s i (j + 1) := by rw [qrh, if_neg (by rw [hb]; decide), List.append_nil, hL]
   ((conv => whnf); refine ⟨j + 1, hjl, ⟨⟨Le.refl _, qgu hE 2, trivial⟩, ⟨qey Mv.cells {} hE, trivial⟩⟩, ⟨qa, qa⟩, ?_⟩; (first | omega | (dsimp only; omega) | skip))
  ·have hjl : (qr m i).length ≤ j := by assumption
   obtain rfl : j = (qr m i).length := by omega
   rw [jdy, ← hp1] at hL
   ((conv => whnf); refine ⟨i + 1, hil, ⟨⟨Le.refl _, qgu hL.symm 2, trivial⟩, ⟨qey Mv.cells {} hL.symm, trivial⟩⟩, ⟨qa, qa⟩, ?_⟩; (first | omega | (dsimp only; omega) | skip))
 ·have hmv : qcb m s = qp m s i := by
   obtain rfl : i = m.procs.length := by omega
   unfold qcb
   rw [if_neg (by assumption), List.append_nil]; rfl
  rw [hmv]
  exact Le.refl _
 ·obtain rfl : i = m.procs.length := by omega
  have hmv : qcb m s = qp m s m.procs.length ++ qaq m s m.chans.length := by
   unfold qcb
   rw [if_pos (by assumption)]; rfl
  have he0 : qp m s m.procs.length ++ qaq m s 0 = qp m s m.procs.length := List.append_nil _
  ((conv => whnf); refine qn (fun _ => rfl) 300 2 (fun c : Nat => [(60, iv c), (5, .own 2 0 0 (qp m s m.procs.length ++ qaq m s c).length)]) (fun c => [(2, .row [] 51 4 0 (qp m s m.procs.length ++ qaq m s c).length (encL Mv.cells {} (qp m s m.procs.length ++ qaq m s c)))]) (fun c => c ≤ m.chans.length) (fun c => m.chans.length - c) (0) (Nat.zero_le _) ⟨Le.refl _, qgu he0.symm 2, trivial⟩ ⟨qey Mv.cells {} he0.symm, trivial⟩ (fun _ => rfl) (by kernel_rfl) ?_; (conv => whnf))
  intro c hc
  have hcn := qri m s c
  have hsum : (qp m s m.procs.length ++ qaq m s c).length ≤ 200000 := by rw [List.length_append]; omega
  generalize hL : qp m s m.procs.length ++ qaq m s c = L at hsum ⊢
  (repeat' ((conv => whnf); first | refine Ob.auto ?_ | refine zC 300 (jdj m hM.ok s hcl c (by omega)) ?_ | refine zC 300 (jdk m hM.ok s hcl c (by omega)) ?_ | (apply zB <;> intro hb <;> (try simp [-zd] at hb) <;> try (exfalso; omega))))
  ·have hE : L ++ [⟨1, 0, 0, c⟩, ⟨2, 0, 0, c⟩] = qp m s m.procs.length ++ qaq m s (c + 1) := by rw [qhw, ← List.append_assoc, hL]; simp [qeb, *]
   ((conv => whnf); refine ⟨c + 1, by omega, ⟨⟨Le.refl _, jea hE 2, trivial⟩, ⟨jdz Mv.cells {} hE rfl rfl, trivial⟩⟩, ⟨qa, qa⟩, ?_⟩; (first | omega | (dsimp only; omega) | skip))
  ·have hE : L ++ [⟨1, 0, 0, c⟩] = qp m s m.procs.length ++ qaq m s (c + 1) := by rw [qhw, ← List.append_assoc, hL]; simp [qeb, *]
   ((conv => whnf); refine ⟨c + 1, by omega, ⟨⟨Le.refl _, qlu hE 2, trivial⟩, ⟨qlt Mv.cells {} hE rfl, trivial⟩⟩, ⟨qa, qa⟩, ?_⟩; (first | omega | (dsimp only; omega) | skip))
  ·have hE : L ++ [⟨2, 0, 0, c⟩] = qp m s m.procs.length ++ qaq m s (c + 1) := by rw [qhw, ← List.append_assoc, hL]; simp [qeb, *]
   ((conv => whnf); refine ⟨c + 1, by omega, ⟨⟨Le.refl _, qlu hE 2, trivial⟩, ⟨qlt Mv.cells {} hE rfl, trivial⟩⟩, ⟨qa, qa⟩, ?_⟩; (first | omega | (dsimp only; omega) | skip))
  ·have hE : L = qp m s m.procs.length ++ qaq m s (c + 1) := by rw [qhw, ← List.append_assoc, hL]; simp [qeb, *]
   ((conv => whnf); refine ⟨c + 1, by omega, ⟨⟨Le.refl _, qgu hE 2, trivial⟩, ⟨qey Mv.cells {} hE, trivial⟩⟩, ⟨qa, qa⟩, ?_⟩; (first | omega | (dsimp only; omega) | skip))
  ·obtain rfl : c = m.chans.length := by omega
   rw [hmv, hL]
   exact Le.refl _
end Go.Proofs.YtdoaagphhjggbaaGreat
end
