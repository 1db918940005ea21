/- Some texts of the library, one behind the other. -/
import Derived.Test.YtdoaagphhjggbaaGreatQ39
import Derived.Test.YtdoaagphhjggbaaGreatQ2
import Derived.Test.YtdoaagphhjggbaaGreatQ34
import Derived.Test.YtdoaagphhjggbaaGreatQ35
import Derived.Test.YtdoaagphhjggbaaGreatQ40
section
/- Contracts: all moves of a state; what is dead, or bad. -/
namespace Go.Proofs.YtdoaagphhjggbaaGreat
open List renaming getD_eq_getElem?_getD → zd
open Go Go.Sx Go.RowKit Go.St
set_option maxRecDepth 100000
set_option maxHeartbeats 4000000
def qq (m : Md) (s : Stt) (i : Nat) : List Mv := (List.range i).flatMap (fun (p : Nat) => if s.holder ≠ -1 ∧ s.holder ≠ p then [] else qkv m s p)
def qbp (m : Md) (s : Stt) (p j : Nat) : List Mv := ((List.range j).filter fun i => canB m s p ((qm m p).getD i Ed.none)).map fun (i : Nat) => ⟨0, p, i, 0⟩
def qaw (m : Md) (s : Stt) (c : Nat) : List Mv := (List.range c).flatMap (qgj m s)
theorem qpx (m : Md) (s : Stt) (i : Nat) : qq m s (i + 1) = qq m s i ++ (if s.holder ≠ -1 ∧ s.holder ≠ (i : Int) then [] else qkv m s i) := by
 unfold qq
 rw [List.range_succ, List.flatMap_append]; simp
theorem qsv (m : Md) (s : Stt) (p j : Nat) : qbp m s p (j + 1) = qbp m s p j ++ (if canB m s p ((qm m p).getD j Ed.none) = true then [⟨0, p, j, 0⟩] else []) := by
 unfold qbp
 rw [List.range_succ, List.filter_append, List.map_append]
 congr 1
 by_cases h : canB m s p ((qm m p).getD j Ed.none) = true
 ·rw [if_pos h, List.filter_cons, if_pos h]; rfl
 ·rw [if_neg h, List.filter_cons, if_neg h]; rfl
theorem qim (m : Md) (s : Stt) (c : Nat) : qaw m s (c + 1) = qaw m s c ++ qgj m s c := by
 unfold qaw
 rw [List.range_succ, List.flatMap_append]; simp
theorem jer (m : Md) (s : Stt) (p : Nat) : qbp m s p (qm m p).length = qkv m s p := rfl
theorem jqe (m : Md) (s : Stt) (c : Nat) : (qgj m s c).length ≤ 2 := by
 unfold qgj
 rw [List.length_append]
 split <;> split <;> simp
theorem qsw (m : Md) (s : Stt) : ∀ c, (qaw m s c).length ≤ 2 * c
 | 0 => by simp [qaw]
 | c + 1 => by rw [qim, List.length_append]; have := qsw m s c; have := jqe m s c; omega
theorem qxd (m : Md) (s : Stt) (p j : Nat) : (qbp m s p j).length ≤ j := by
 unfold qbp
 rw [List.length_map]
 exact Nat.le_trans (List.length_filter_le _ _) (by simp)
theorem qsx (m : Md) (hM : ModOk m) (s : Stt) : ∀ i, i ≤ m.procs.length → (qq m s i).length ≤ 40000 * i
 | 0, _ => by simp [qq]
 | i + 1, h => by
  have h1 := qsx m hM s i (by omega)
  have h2 := (hM.psz _ (qj m.procs i Pr.none (by omega))).1
  have h3 : (qkv m s i).length ≤ (qm m i).length := qxd m s i _
  have h4 : (qm m i).length ≤ 40000 := h2
  rw [qpx, List.length_append]
  split
  ·simp; omega
  ·omega
theorem qft {α : Type} (enc : α → List AV) (d : α) {l l' : List α} (h : l = l') {ids : List Nat} {e : TypeId} {sz ep : Nat} : SoLe (.row ids e sz ep l.length (encL enc d l)) (.row ids e sz ep l'.length (encL enc d l')) := by
 subst h; exact SoLe.refl _
theorem qnh {α : Type} (enc : α → List AV) (d : α) {l l' : List α} {x : α} (h : l ++ [x] = l') {ids : List Nat} {e : TypeId} {sz ep : Nat} {g : Nat → List AV} (hg : g 0 = enc x) : SoLe (.row ids e sz ep (l.length + 1) (appF l.length (encL enc d l) 1 g)) (.row ids e sz ep l'.length (encL enc d l')) := by
 subst h; exact ⟨⟨rfl, rfl, rfl⟩, rfl, by rw [List.length_append]; rfl, qva hg⟩
theorem jes {α : Type} (enc : α → List AV) (d : α) {l l' : List α} {x y : α} (h : l ++ [x, y] = l') {ids : List Nat} {e : TypeId} {sz ep : Nat} {g g' : Nat → List AV} (hg : g 0 = enc x) (hg' : g' 0 = enc y) : SoLe (.row ids e sz ep (l.length + 1 + 1) (appF (l.length + 1) (appF l.length (encL enc d l) 1 g) 1 g')) (.row ids e sz ep l'.length (encL enc d l')) := by
 have h2 : l ++ [x] ++ [y] = l' := by rw [← h]; simp
 subst h2
 refine ⟨⟨rfl, rfl, rfl⟩, rfl, by rw [List.length_append, List.length_append]; rfl, fun j hj => ?_⟩
 have hlen : (l ++ [x]).length = l.length + 1 := by rw [List.length_append]; rfl
 by_cases hl : j < l.length + 1
 ·have h1 := qva (d := d) (L := l) hg j hl
  have e1 : appF (l.length + 1) (appF l.length (encL enc d l) 1 g) 1 g' j = appF l.length (encL enc d l) 1 g j := if_pos hl
  have e2 : encL enc d (l ++ [x] ++ [y]) j = encL enc d (l ++ [x]) j := by unfold encL; rw [qkd, if_pos (by omega)]
  rw [e1, e2]; exact h1
 ·obtain rfl : j = l.length + 1 := by omega
  have e1 : appF (l.length + 1) (appF l.length (encL enc d l) 1 g) 1 g' (l.length + 1) = g' 0 := by unfold appF; rw [if_neg (by omega), if_pos (by omega), Nat.sub_self]
  have e2 : encL enc d (l ++ [x] ++ [y]) (l.length + 1) = enc y := by unfold encL; rw [qkd, if_neg (by omega), if_pos hlen.symm]
  rw [e1, e2, hg']; exact LeL.refl _
theorem jet {α : Type} {l l' : List α} {x y : α} (h : l ++ [x, y] = l') (r : Nat) : Le (.own r 0 0 (l.length + 1 + 1)) (.own r 0 0 l'.length) := by
 subst h; exact Le.of_eq (by rw [List.length_append]; rfl)
theorem qni {α : Type} {l l' : List α} {x : α} (h : l ++ [x] = l') (r : Nat) : Le (.own r 0 0 (l.length + 1)) (.own r 0 0 l'.length) := by
 subst h; exact Le.of_eq (by rw [List.length_append]; rfl)
theorem qhi {α : Type} {l l' : List α} (h : l = l') (r : Nat) : Le (.own r 0 0 l.length) (.own r 0 0 l'.length) := by
 subst h; exact Le.refl _
theorem qxe (m : Md) (hM : ModOk m) (s : Stt) (hf : qw m s = true) : Con Tryz.prog 14 [m.av, s.av] (qpr (qcs m s)) := by
 have hs := qdx hM hf
 have hft := jp m s hs
 rw [hf] at hft
 have h0 := ((qaa m s).1 hf).1
 have hz := hM.sz
 have hpl := qsx m hM s
 have hcl := h0.2.2.1
 have hpz := hM.psz
 refine qd (T := tab Tryz.prog) (C := {owns := [(5, (51, 4))]}) 300 (fun _ => rfl) Tryz.func14 rfl (by kernel_rfl) (by kernel_rfl) (fun c0 rdb => ?_)
 (repeat' ((conv => whnf); first | refine zA ?_ | refine zO ?_ | refine Ob.auto ?_ | refine zI ?_ | refine zC 300 (hft) ?_ | refine zG 300 (fun hg => hft) ?_ | (refine CallY.con (hft) (by rfl) leA ?_) | (refine CallZ.con (fun hg => hft) qc (by rfl) ?_) | refine zE 300 (hft) ?_ | refine zF 300 (fun hg => hft) ?_ | refine zD 300 ?_ | (apply zB <;> intro hb <;> (try simp [-zd] at hb) <;> try (exfalso; omega)) | refine Ob.intro ?_ ?_))
 ((conv => whnf); refine qp (fun _ => rfl) 300 1 (fun i : Nat => [(18, iv i), (5, .own 2 0 0 (qq m s i).length)]) (fun i => [(2, .row [] 51 4 0 (qq m s i).length (encL Mv.cells {} (qq m s i)))]) (fun i => i ≤ m.procs.length) (fun i => m.procs.length - i) (0) (Nat.zero_le _) qa ⟨qch (fun k hk => absurd hk (Nat.not_lt_zero k)), trivial⟩ (fun _ => rfl) (by kernel_rfl) ?_; (conv => whnf))
 intro i hi
 have hpi := hpl i hi
 (repeat' ((conv => whnf); first | refine zA ?_ | refine zO ?_ | refine Ob.auto ?_ | refine zI ?_ | refine zD 300 ?_ | (apply zB <;> intro hb <;> (try simp [-zd] at hb) <;> try (exfalso; omega)) | refine Ob.intro ?_ ?_))
 ·have hp1 : qq m s (i + 1) = qq m s i := by rw [qpx, if_pos hb, List.append_nil]
  ((conv => whnf); refine ⟨i + 1, by omega, ⟨⟨Le.refl _, Le.of_eq (congrArg (fun l => AV.own 2 0 0 (List.length l)) hp1.symm), trivial⟩, ⟨qft Mv.cells {} hp1.symm, trivial⟩⟩, ⟨qa, qa⟩, ?_⟩; (first | omega | (dsimp only; omega) | skip))
 ·have hp1 : qq m s (i + 1) = qq m s i ++ qkv m s i := by rw [qpx, if_neg (fun h => h.2 (hb h.1))]
  have hil : i < m.procs.length := by assumption
  have hpe := (hpz _ (qj m.procs i Pr.none hil)).1
  have hel : (qm m i).length ≤ 40000 := hpe
  have he0 : qq m s i ++ qbp m s i 0 = qq m s i := List.append_nil _
  ((conv => whnf); refine qdp (fun _ => rfl) 300 2 [2, 3, 4, 6, 18, 33, 34, 16, 17] [0, 1, 3] (fun j : Nat => [(35, iv j), (5, .own 2 0 0 (qq m s i ++ qbp m s i j).length)]) (fun j => [(2, .row [] 51 4 0 (qq m s i ++ qbp m s i j).length (encL Mv.cells {} (qq m s i ++ qbp m s i j)))]) (fun j => j ≤ (qm m i).length) (fun j => (qm m i).length - j) (0) (Nat.zero_le _) ⟨Le.refl _, Le.of_eq (congrArg (fun l => AV.own 2 0 0 (List.length l)) he0.symm), trivial⟩ ⟨qft Mv.cells {} he0.symm, trivial⟩ (fun _ => rfl) (by kernel_rfl) ?_; (conv => whnf))
  intro j hj
  have hen := qxd m s i j
  have hsum : (qq m s i ++ qbp m s i j).length ≤ 200000 := by rw [List.length_append]; omega
  generalize hL : qq m s i ++ qbp m s i j = L at hsum ⊢
  (repeat' ((conv => whnf); first | refine zA ?_ | refine zO ?_ | refine Ob.auto ?_ | refine zI ?_ | refine zC 300 (qeo m hM.ok s hf hs i hil ((qm m i).getD j Ed.none) (edOk hM hil (by exact hb))) ?_ | refine zG 300 (fun hg => qeo m hM.ok s hf hs i hil ((qm m i).getD j Ed.none) (edOk hM hil (by exact hb))) ?_ | (refine CallY.con (qeo m hM.ok s hf hs i hil ((qm m i).getD j Ed.none) (edOk hM hil (by exact hb))) (by rfl) leA ?_) | (refine CallZ.con (fun hg => qeo m hM.ok s hf hs i hil ((qm m i).getD j Ed.none) (edOk hM hil (by exact hb))) qc (by rfl) ?_) | refine zE 300 (qeo m hM.ok s hf hs i hil ((qm m i).getD j Ed.none) (edOk hM hil (by exact hb))) ?_ | refine zF 300 (fun hg => qeo m hM.ok s hf hs i hil ((qm m i).getD j Ed.none) (edOk hM hil (by exact hb))) ?_ | refine zD 300 ?_ | (apply zB <;> intro hb <;> (try simp [-zd] at hb) <;> try (exfalso; omega)) | refine Ob.intro ?_ ?_))
  ·have hjl : j < (qm m i).length := by assumption
   have hE : L ++ [⟨0, i, j, 0⟩] = qq m s i ++ qbp m s i (j + 1) := by rw [qsv, if_pos hb, ← List.append_assoc, hL]
   ((conv => whnf); refine ⟨j + 1, hjl, ⟨⟨Le.refl _, qni hE 2, trivial⟩, ⟨qnh Mv.cells {} hE rfl, trivial⟩⟩, ⟨qa, qa⟩, ?_⟩; (first | omega | (dsimp only; omega) | skip))
  ·have hjl : j < (qm m i).length := by assumption
   have hE : L = qq m s i ++ qbp m s i (j + 1) := by rw [qsv, if_neg (by rw [hb]; decide), List.append_nil, hL]
   ((conv => whnf); refine ⟨j + 1, hjl, ⟨⟨Le.refl _, qhi hE 2, trivial⟩, ⟨qft Mv.cells {} hE, trivial⟩⟩, ⟨qa, qa⟩, ?_⟩; (first | omega | (dsimp only; omega) | skip))
  ·have hjl : (qm m i).length ≤ j := by assumption
   obtain rfl : j = (qm m i).length := by omega
   rw [jer, ← hp1] at hL
   ((conv => whnf); refine ⟨i + 1, hil, ⟨⟨Le.refl _, qhi hL.symm 2, trivial⟩, ⟨qft Mv.cells {} hL.symm, trivial⟩⟩, ⟨qa, qa⟩, ?_⟩; (first | omega | (dsimp only; omega) | skip))
 ·have hmv : qcs m s = qq m s i := by
   obtain rfl : i = m.procs.length := by omega
   unfold qcs
   rw [if_neg (by assumption), List.append_nil]; rfl
  rw [hmv]
  exact Le.refl _
 ·obtain rfl : i = m.procs.length := by omega
  have hmv : qcs m s = qq m s m.procs.length ++ qaw m s m.chans.length := by
   unfold qcs
   rw [if_pos (by assumption)]; rfl
  have he0 : qq m s m.procs.length ++ qaw m s 0 = qq m s m.procs.length := List.append_nil _
  ((conv => whnf); refine qp (fun _ => rfl) 300 2 (fun c : Nat => [(60, iv c), (5, .own 2 0 0 (qq m s m.procs.length ++ qaw m s c).length)]) (fun c => [(2, .row [] 51 4 0 (qq m s m.procs.length ++ qaw m s c).length (encL Mv.cells {} (qq m s m.procs.length ++ qaw m s c)))]) (fun c => c ≤ m.chans.length) (fun c => m.chans.length - c) (0) (Nat.zero_le _) ⟨Le.refl _, qhi he0.symm 2, trivial⟩ ⟨qft Mv.cells {} he0.symm, trivial⟩ (fun _ => rfl) (by kernel_rfl) ?_; (conv => whnf))
  intro c hc
  have hcn := qsw m s c
  have hsum : (qq m s m.procs.length ++ qaw m s c).length ≤ 200000 := by rw [List.length_append]; omega
  generalize hL : qq m s m.procs.length ++ qaw m s c = L at hsum ⊢
  (repeat' ((conv => whnf); first | refine zA ?_ | refine zO ?_ | refine Ob.auto ?_ | refine zI ?_ | refine zC 300 (qfr m hM.ok s hcl c (by omega)) ?_ | refine zG 300 (fun hg => qfr m hM.ok s hcl c (by omega)) ?_ | (refine CallY.con (qfr m hM.ok s hcl c (by omega)) (by rfl) leA ?_) | (refine CallZ.con (fun hg => qfr m hM.ok s hcl c (by omega)) qc (by rfl) ?_) | refine zC 300 (qfs m hM.ok s hcl c (by omega)) ?_ | refine zG 300 (fun hg => qfs m hM.ok s hcl c (by omega)) ?_ | (refine CallY.con (qfs m hM.ok s hcl c (by omega)) (by rfl) leA ?_) | (refine CallZ.con (fun hg => qfs m hM.ok s hcl c (by omega)) qc (by rfl) ?_) | refine zE 300 (qfr m hM.ok s hcl c (by omega)) ?_ | refine zF 300 (fun hg => qfr m hM.ok s hcl c (by omega)) ?_ | refine zE 300 (qfs m hM.ok s hcl c (by omega)) ?_ | refine zF 300 (fun hg => qfs m hM.ok s hcl c (by omega)) ?_ | refine zD 300 ?_ | (apply zB <;> intro hb <;> (try simp [-zd] at hb) <;> try (exfalso; omega)) | refine Ob.intro ?_ ?_))
  ·have hE : L ++ [⟨1, 0, 0, c⟩, ⟨2, 0, 0, c⟩] = qq m s m.procs.length ++ qaw m s (c + 1) := by rw [qim, ← List.append_assoc, hL]; simp [qgj, *]
   ((conv => whnf); refine ⟨c + 1, by omega, ⟨⟨Le.refl _, jet hE 2, trivial⟩, ⟨jes Mv.cells {} hE rfl rfl, trivial⟩⟩, ⟨qa, qa⟩, ?_⟩; (first | omega | (dsimp only; omega) | skip))
  ·have hE : L ++ [⟨1, 0, 0, c⟩] = qq m s m.procs.length ++ qaw m s (c + 1) := by rw [qim, ← List.append_assoc, hL]; simp [qgj, *]
   ((conv => whnf); refine ⟨c + 1, by omega, ⟨⟨Le.refl _, qni hE 2, trivial⟩, ⟨qnh Mv.cells {} hE rfl, trivial⟩⟩, ⟨qa, qa⟩, ?_⟩; (first | omega | (dsimp only; omega) | skip))
  ·have hE : L ++ [⟨2, 0, 0, c⟩] = qq m s m.procs.length ++ qaw m s (c + 1) := by rw [qim, ← List.append_assoc, hL]; simp [qgj, *]
   ((conv => whnf); refine ⟨c + 1, by omega, ⟨⟨Le.refl _, qni hE 2, trivial⟩, ⟨qnh Mv.cells {} hE rfl, trivial⟩⟩, ⟨qa, qa⟩, ?_⟩; (first | omega | (dsimp only; omega) | skip))
  ·have hE : L = qq m s m.procs.length ++ qaw m s (c + 1) := by rw [qim, ← List.append_assoc, hL]; simp [qgj, *]
   ((conv => whnf); refine ⟨c + 1, by omega, ⟨⟨Le.refl _, qhi hE 2, trivial⟩, ⟨qft Mv.cells {} hE, trivial⟩⟩, ⟨qa, qa⟩, ?_⟩; (first | omega | (dsimp only; omega) | skip))
  ·obtain rfl : c = m.chans.length := by omega
   rw [hmv, hL]
   exact Le.refl _
end Go.Proofs.YtdoaagphhjggbaaGreat
end
section
/- Contracts: what is dead, or bad. -/
namespace Go.Proofs.YtdoaagphhjggbaaGreat
open List renaming getD_eq_getElem?_getD → zd
open Go Go.Sx Go.RowKit Go.St
set_option maxRecDepth 100000
set_option maxHeartbeats 4000000
theorem jqf (m : Md) (s : Stt) (hs : SSz s) (hf : qw m s = false) : Con Tryz.prog 14 [m.av, s.av] (qpr []) := by
 have hft := jp m s hs
 rw [hf] at hft
 refine qd (T := tab Tryz.prog) (C := {}) 300 (fun _ => rfl) Tryz.func14 rfl (by kernel_rfl) (by kernel_rfl) (fun c0 rdb => ?_)
 (repeat' ((conv => whnf); first | refine zA ?_ | refine zO ?_ | refine Ob.auto ?_ | refine zC 300 (hft) ?_ | refine zG 300 (fun hg => hft) ?_ | (refine CallY.con (hft) (by rfl) leA ?_) | (refine CallZ.con (fun hg => hft) qc (by rfl) ?_) | refine zE 300 (hft) ?_ | refine zF 300 (fun hg => hft) ?_ | refine zD 300 ?_ | (apply zB <;> intro hb <;> (try simp [-zd] at hb) <;> try (exfalso; omega)) | refine Ob.intro ?_ ?_))
 exact Le.nils _ _
theorem qsy (m : Md) (hM : ModOk m) (s : Stt) (hs : SSz s) : Con Tryz.prog 16 [m.av, s.av] (.bool (qw m s && qmv m s)) := by
 have hft := jp m s hs
 by_cases hf : qw m s = true
 ·have hmv := qxe m hM s hf
  have h0 := (qaa m s).1 hf
  have hz := hM.sz
  have hr := fun (q : Pr) hq => (hM.pr q hq).rl
  rw [hf] at hft
  rw [hf, Bool.true_and]
  unfold qmv
  generalize hL : qcs m s = L at hmv
  refine qd (T := tab Tryz.prog) (C := {}) 300 (fun _ => rfl) Tryz.func16 rfl (by kernel_rfl) (by kernel_rfl) (fun c0 rdb => ?_)
  (repeat' ((conv => whnf); first | refine zA ?_ | refine zO ?_ | refine Ob.auto ?_ | refine zI ?_ | refine zC 300 (hft) ?_ | refine zG 300 (fun hg => hft) ?_ | (refine CallY.con (hft) (by rfl) leA ?_) | (refine CallZ.con (fun hg => hft) qc (by rfl) ?_) | refine zC 300 (hmv) ?_ | refine zG 300 (fun hg => hmv) ?_ | (refine CallY.con (hmv) (by rfl) leA ?_) | (refine CallZ.con (fun hg => hmv) qc (by rfl) ?_) | refine zE 300 (hft) ?_ | refine zF 300 (fun hg => hft) ?_ | refine zE 300 (hmv) ?_ | refine zF 300 (fun hg => hmv) ?_ | refine zD 300 ?_ | (apply zB <;> intro hb <;> (try simp [-zd] at hb) <;> try (exfalso; omega)) | refine Ob.intro ?_ ?_))
  ·rw [show L.isEmpty = false from by cases L with | nil => simp at hb | cons a b => rfl]
   exact Le.refl _
  ·subst hb
   have hat := h0.1.1
   have hfa := h0.2.1
   ((conv => whnf); refine qp (fun _ => rfl) 300 1 (fun i : Nat => [(21, iv i), (4, .bool false)]) (fun _ => []) (fun i => i ≤ m.procs.length ∧ ∀ j, j < i → (m.procs.getD j Pr.none).rest.getD (s.at_.getD j 0).toNat false = true) (fun i => m.procs.length - i) (0) (⟨Nat.zero_le _, fun j hj => absurd hj (Nat.not_lt_zero j)⟩) qa qa (fun _ => rfl) (by kernel_rfl) ?_; (conv => whnf))
   intro i hi
   have hri : i < m.procs.length → 0 ≤ s.at_.getD i 0 ∧ s.at_.getD i 0 < ((m.procs.getD i Pr.none).rest.length : Int) := fun h => by
    have h1 := hfa i (by omega)
    have h2 := hr _ (qj m.procs i Pr.none h)
    unfold qki at h1
    omega
   (repeat' ((conv => whnf); first | refine zA ?_ | refine zO ?_ | refine Ob.auto ?_ | (refine Ob.intro (by (first | exact ⟨by omega, by omega⟩ | exact hri (by omega))) ?_) | refine zD 300 ?_ | (apply zB <;> intro hb <;> (try simp [-zd] at hb) <;> try (exfalso; omega)) | refine Ob.intro ?_ ?_))
   ·rw [show qxa m s = false from qrv (i := i) (by omega) (by assumption)]
    exact Le.refl _
   ·((conv => whnf); refine ⟨i + 1, ⟨by omega, qao hi.2 (by assumption)⟩, ⟨qa, qa⟩, ⟨qa, qa⟩, ?_⟩; (first | omega | (dsimp only; omega) | skip))
   ·rw [show qxa m s = true from qkh fun j hj => hi.2 j (by omega)]
    exact Le.refl _
 ·rw [Bool.not_eq_true] at hf
  rw [hf] at hft
  rw [hf]
  refine qd (T := tab Tryz.prog) (C := {}) 300 (fun _ => rfl) Tryz.func16 rfl (by kernel_rfl) (by kernel_rfl) (fun c0 rdb => ?_)
  (repeat' ((conv => whnf); first | refine zA ?_ | refine zO ?_ | refine Ob.auto ?_ | refine zC 300 (hft) ?_ | refine zG 300 (fun hg => hft) ?_ | (refine CallY.con (hft) (by rfl) leA ?_) | (refine CallZ.con (fun hg => hft) qc (by rfl) ?_) | refine zC 300 ((absurd hg (by decide) : Con Tryz.prog 14 [m.av, s.av] (.slc 4 0 (fun _ => [])))) ?_ | refine zG 300 (fun hg => (absurd hg (by decide) : Con Tryz.prog 14 [m.av, s.av] (.slc 4 0 (fun _ => [])))) ?_ | (refine CallY.con ((absurd hg (by decide) : Con Tryz.prog 14 [m.av, s.av] (.slc 4 0 (fun _ => [])))) (by rfl) leA ?_) | (refine CallZ.con (fun hg => (absurd hg (by decide) : Con Tryz.prog 14 [m.av, s.av] (.slc 4 0 (fun _ => [])))) qc (by rfl) ?_) | refine zE 300 (hft) ?_ | refine zF 300 (fun hg => hft) ?_ | refine zE 300 ((absurd hg (by decide) : Con Tryz.prog 14 [m.av, s.av] (.slc 4 0 (fun _ => [])))) ?_ | refine zF 300 (fun hg => (absurd hg (by decide) : Con Tryz.prog 14 [m.av, s.av] (.slc 4 0 (fun _ => [])))) ?_ | refine zD 300 ?_ | (apply zB <;> intro hb <;> (try simp [-zd] at hb) <;> try (exfalso; omega)) | refine Ob.intro ?_ ?_))
  exact Le.refl _
theorem qxf (m : Md) (hM : ModOk m) (s : Stt) (hs : SSz s) : Con Tryz.prog 18 [m.av, s.av] (.bool (qw m s && badB m s)) := by
 have hft := jp m s hs
 have hsf := jpq m hM.ok s hs
 have hdd := qsy m hM s hs
 by_cases hf : qw m s = true
 ·rw [hf] at hft hsf hdd
  rw [hf, Bool.true_and]
  have e : (m.safe.isEmpty || (true && qlw m s)) = qlw m s := by
   rw [Bool.true_and]
   unfold qlw
   cases m.safe with
   | nil => rfl
   | cons a b => rfl
  rw [e] at hsf
  rw [Bool.true_and] at hdd
  unfold badB
  refine qd (T := tab Tryz.prog) (C := {}) 300 (fun _ => rfl) Tryz.func18 rfl (by kernel_rfl) (by kernel_rfl) (fun c0 rdb => ?_)
  (repeat' ((conv => whnf); first | refine zA ?_ | refine zO ?_ | refine Ob.auto ?_ | refine zC 300 (hft) ?_ | refine zG 300 (fun hg => hft) ?_ | (refine CallY.con (hft) (by rfl) leA ?_) | (refine CallZ.con (fun hg => hft) qc (by rfl) ?_) | refine zC 300 (hsf) ?_ | refine zG 300 (fun hg => hsf) ?_ | (refine CallY.con (hsf) (by rfl) leA ?_) | (refine CallZ.con (fun hg => hsf) qc (by rfl) ?_) | refine zC 300 (hdd) ?_ | refine zG 300 (fun hg => hdd) ?_ | (refine CallY.con (hdd) (by rfl) leA ?_) | (refine CallZ.con (fun hg => hdd) qc (by rfl) ?_) | refine zE 300 (hft) ?_ | refine zF 300 (fun hg => hft) ?_ | refine zE 300 (hsf) ?_ | refine zF 300 (fun hg => hsf) ?_ | refine zE 300 (hdd) ?_ | refine zF 300 (fun hg => hdd) ?_ | refine zD 300 ?_ | (apply zB <;> intro hb <;> (try simp [-zd] at hb) <;> try (exfalso; omega)) | refine Ob.intro ?_ ?_))
  exact Le.refl _
 ·rw [Bool.not_eq_true] at hf
  rw [hf] at hft
  rw [hf]
  refine qd (T := tab Tryz.prog) (C := {}) 300 (fun _ => rfl) Tryz.func18 rfl (by kernel_rfl) (by kernel_rfl) (fun c0 rdb => ?_)
  (repeat' ((conv => whnf); first | refine zA ?_ | refine zO ?_ | refine Ob.auto ?_ | refine zC 300 (hft) ?_ | refine zG 300 (fun hg => hft) ?_ | (refine CallY.con (hft) (by rfl) leA ?_) | (refine CallZ.con (fun hg => hft) qc (by rfl) ?_) | refine zE 300 (hft) ?_ | refine zF 300 (fun hg => hft) ?_ | refine zD 300 ?_ | (apply zB <;> intro hb <;> (try simp [-zd] at hb) <;> try (exfalso; omega)) | refine Ob.intro ?_ ?_))
  exact Le.refl _
end Go.Proofs.YtdoaagphhjggbaaGreat
end
section
/- The example of layer 15. -/
namespace Go.Proofs.YtdoaagphhjggbaaGreat
open Go Go.Sx Go.RowKit Go.St
set_option maxRecDepth 100000
set_option maxHeartbeats 2000000
def st15 : Stt := qxb model15 (qed model15) {}
theorem do_15 : doB model15 (qed model15) {} = true := by decide +kernel
theorem jqg : qw model15 (qed model15) = true := by decide +kernel
theorem jeu : qw model15 st15 = true := by decide +kernel
theorem jqh : qjo model15 st15 0 1 = false := by decide +kernel
theorem jqi : (qw model15 st15 && qmv model15 st15) = true := by decide +kernel
theorem jqj : (qw model15 st15 && badB model15 st15) = false := by decide +kernel
theorem jqk : qcs model15 st15 = [] := by decide +kernel
theorem qnj : Con Tryz.prog 10 [] (.bool true) := by
 have hm := jph
 have s0 := qdx hm jqg
 have s1 := qdx hm jeu
 have h1 := jpn model15 hm.ok
 have h2 := jqd model15 hm (qed model15) s0 {}
 rw [do_15] at h2
 have h3 := qsq model15 hm.ok st15 s1 (fun q hq => (hm.pr q hq).ed) 0 1
 rw [jqh] at h3
 have h4 := qsy model15 hm st15 s1
 rw [jqi] at h4
 have h5 := qxf model15 hm st15 s1
 rw [jqj] at h5
 have h6 := qxe model15 hm st15 jeu
 rw [jqk] at h6
 refine qd (T := tab Tryz.prog) (C := {}) 300 (fun _ => rfl) Tryz.func10 rfl (by kernel_rfl) (by kernel_rfl) (fun c0 rdb => ?_)
 (repeat' ((conv => whnf); first | refine zO ?_ | refine Ob.auto ?_ | refine zC 300 (qmt) ?_ | refine zG 300 (fun hg => qmt) ?_ | refine zX (qmt) ?_ | refine zY (fun hg => qmt) ?_ | refine zC 300 (qmu) ?_ | refine zG 300 (fun hg => qmu) ?_ | refine zX (qmu) ?_ | refine zY (fun hg => qmu) ?_ | refine zC 300 (h1) ?_ | refine zG 300 (fun hg => h1) ?_ | refine zX (h1) ?_ | refine zY (fun hg => h1) ?_ | refine zC 300 (h2) ?_ | refine zG 300 (fun hg => h2) ?_ | refine zX (h2) ?_ | refine zY (fun hg => h2) ?_ | refine zC 300 (h3) ?_ | refine zG 300 (fun hg => h3) ?_ | refine zX (h3) ?_ | refine zY (fun hg => h3) ?_ | refine zC 300 (h4) ?_ | refine zG 300 (fun hg => h4) ?_ | refine zX (h4) ?_ | refine zY (fun hg => h4) ?_ | refine zC 300 (h5) ?_ | refine zG 300 (fun hg => h5) ?_ | refine zX (h5) ?_ | refine zY (fun hg => h5) ?_ | refine zC 300 (h6) ?_ | refine zG 300 (fun hg => h6) ?_ | refine zX (h6) ?_ | refine zY (fun hg => h6) ?_ | refine zE 300 (qmt) ?_ | refine zF 300 (fun hg => qmt) ?_ | refine zE 300 (qmu) ?_ | refine zF 300 (fun hg => qmu) ?_ | refine zE 300 (h1) ?_ | refine zF 300 (fun hg => h1) ?_ | refine zE 300 (h2) ?_ | refine zF 300 (fun hg => h2) ?_ | refine zE 300 (h3) ?_ | refine zF 300 (fun hg => h3) ?_ | refine zE 300 (h4) ?_ | refine zF 300 (fun hg => h4) ?_ | refine zE 300 (h5) ?_ | refine zF 300 (fun hg => h5) ?_ | refine zE 300 (h6) ?_ | refine zF 300 (fun hg => h6) ?_ | (refine zR 300 ?_) | (apply zB <;> intro hb <;> (try simp [-List.getD_eq_getElem?_getD] at hb) <;> try (exfalso; omega)) | refine Ob.intro ?_ ?_))
 exact Le.refl _
end Go.Proofs.YtdoaagphhjggbaaGreat
end
