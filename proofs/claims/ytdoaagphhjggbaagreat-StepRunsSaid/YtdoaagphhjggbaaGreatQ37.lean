/- Some texts of the library, one behind the other. -/
import Derived.Test.YtdoaagphhjggbaaGreatQ35
import Derived.Test.YtdoaagphhjggbaaGreatQ2
import Derived.Test.YtdoaagphhjggbaaGreatQ32
import Derived.Test.YtdoaagphhjggbaaGreatQ36
import Derived.Test.YtdoaagphhjggbaaGreatQ31
import Derived.Test.YtdoaagphhjggbaaGreatQ33
section
/- Contracts: all moves of a state; what is dead, or bad. -/
namespace Go.Proofs.YtdoaagphhjggbaaGreat
open List renaming getD_eq_getElem?_getD → zd
open Go Go.Sx Go.RowKit Go.St
set_option maxRecDepth 100000
set_option maxHeartbeats 4000000
def jq (m : Md) (s : Stt) (i : Nat) : List Mv := (List.range i).flatMap (fun (p : Nat) => if s.holder ≠ -1 ∧ s.holder ≠ p then [] else qik m s p)
def qdv (m : Md) (s : Stt) (p j : Nat) : List Mv := ((List.range j).filter fun i => canB m s p ((qu m p).getD i Ed.none)).map fun (i : Nat) => ⟨0, p, i, 0⟩
def qcn (m : Md) (s : Stt) (c : Nat) : List Mv := (List.range c).flatMap (qfk m s)
theorem qvh (m : Md) (s : Stt) (i : Nat) : jq m s (i + 1) = jq m s i ++ (if s.holder ≠ -1 ∧ s.holder ≠ (i : Int) then [] else qik m s i) := by
 unfold jq
 rw [List.range_succ, List.flatMap_append]; simp
theorem jdd (m : Md) (s : Stt) (p j : Nat) : qdv m s p (j + 1) = qdv m s p j ++ (if canB m s p ((qu m p).getD j Ed.none) = true then [⟨0, p, j, 0⟩] else []) := by
 unfold qdv
 rw [List.range_succ, List.filter_append, List.map_append]
 congr 1
 by_cases h : canB m s p ((qu m p).getD j Ed.none) = true
 ·rw [if_pos h, List.filter_cons, if_pos h]; rfl
 ·rw [if_neg h, List.filter_cons, if_neg h]; rfl
theorem qnz (m : Md) (s : Stt) (c : Nat) : qcn m s (c + 1) = qcn m s c ++ qfk m s c := by
 unfold qcn
 rw [List.range_succ, List.flatMap_append]; simp
theorem jpo (m : Md) (s : Stt) (p : Nat) : qdv m s p (qu m p).length = qik m s p := rfl
theorem jpp (m : Md) (s : Stt) (c : Nat) : (qfk m s c).length ≤ 2 := by
 unfold qfk
 rw [List.length_append]
 split <;> split <;> simp
theorem qvi (m : Md) (s : Stt) : ∀ c, (qcn m s c).length ≤ 2 * c
 | 0 => by simp [qcn]
 | c + 1 => by rw [qnz, List.length_append]; have := qvi m s c; have := jpp m s c; omega
theorem jde (m : Md) (s : Stt) (p j : Nat) : (qdv m s p j).length ≤ j := by
 unfold qdv
 rw [List.length_map]
 exact Nat.le_trans (List.length_filter_le _ _) (by simp)
theorem qvj (m : Md) (hM : ModOk m) (s : Stt) : ∀ i, i ≤ m.procs.length → (jq m s i).length ≤ 40000 * i
 | 0, _ => by simp [jq]
 | i + 1, h => by
  have h1 := qvj m hM s i (by omega)
  have h2 := (hM.psz _ (ql m.procs i Pr.none (by omega))).1
  have h3 : (qik m s i).length ≤ (qu m i).length := jde m s i _
  have h4 : (qu m i).length ≤ 40000 := h2
  rw [qvh, List.length_append]
  split
  ·simp; omega
  ·omega
theorem qll {α : Type} (enc : α → List AV) (d : α) {l l' : List α} (h : l = l') {ids : List Nat} {e : TypeId} {sz ep : Nat} : SoLe (.row ids e sz ep l.length (encL enc d l)) (.row ids e sz ep l'.length (encL enc d l')) := by
 subst h; exact SoLe.refl _
theorem qvk {α : Type} (enc : α → List AV) (d : α) {l l' : List α} {x : α} (h : l ++ [x] = l') {ids : List Nat} {e : TypeId} {sz ep : Nat} {g : Nat → List AV} (hg : g 0 = enc x) : SoLe (.row ids e sz ep (l.length + 1) (appF l.length (encL enc d l) 1 g)) (.row ids e sz ep l'.length (encL enc d l')) := by
 subst h; exact ⟨⟨rfl, rfl, rfl⟩, rfl, by rw [List.length_append]; rfl, qss hg⟩
theorem jpq {α : Type} (enc : α → List AV) (d : α) {l l' : List α} {x y : α} (h : l ++ [x, y] = l') {ids : List Nat} {e : TypeId} {sz ep : Nat} {g g' : Nat → List AV} (hg : g 0 = enc x) (hg' : g' 0 = enc y) : SoLe (.row ids e sz ep (l.length + 1 + 1) (appF (l.length + 1) (appF l.length (encL enc d l) 1 g) 1 g')) (.row ids e sz ep l'.length (encL enc d l')) := by
 have h2 : l ++ [x] ++ [y] = l' := by rw [← h]; simp
 subst h2
 refine ⟨⟨rfl, rfl, rfl⟩, rfl, by rw [List.length_append, List.length_append]; rfl, fun j hj => ?_⟩
 have hlen : (l ++ [x]).length = l.length + 1 := by rw [List.length_append]; rfl
 by_cases hl : j < l.length + 1
 ·have h1 := qss (d := d) (L := l) hg j hl
  have e1 : appF (l.length + 1) (appF l.length (encL enc d l) 1 g) 1 g' j = appF l.length (encL enc d l) 1 g j := if_pos hl
  have e2 : encL enc d (l ++ [x] ++ [y]) j = encL enc d (l ++ [x]) j := by unfold encL; rw [qje, if_pos (by omega)]
  rw [e1, e2]; exact h1
 ·obtain rfl : j = l.length + 1 := by omega
  have e1 : appF (l.length + 1) (appF l.length (encL enc d l) 1 g) 1 g' (l.length + 1) = g' 0 := by unfold appF; rw [if_neg (by omega), if_pos (by omega), Nat.sub_self]
  have e2 : encL enc d (l ++ [x] ++ [y]) (l.length + 1) = enc y := by unfold encL; rw [qje, if_neg (by omega), if_pos hlen.symm]
  rw [e1, e2, hg']; exact LeL.refl _
theorem jpr {α : Type} {l l' : List α} {x y : α} (h : l ++ [x, y] = l') (r : Nat) : Le (.own r 0 0 (l.length + 1 + 1)) (.own r 0 0 l'.length) := by
 subst h; exact Le.of_eq (by rw [List.length_append]; rfl)
theorem qvl {α : Type} {l l' : List α} {x : α} (h : l ++ [x] = l') (r : Nat) : Le (.own r 0 0 (l.length + 1)) (.own r 0 0 l'.length) := by
 subst h; exact Le.of_eq (by rw [List.length_append]; rfl)
theorem qqz {α : Type} {l l' : List α} (h : l = l') (r : Nat) : Le (.own r 0 0 l.length) (.own r 0 0 l'.length) := by
 subst h; exact Le.refl _
theorem qoa (m : Md) (hM : ModOk m) (s : Stt) (hf : qp m s = true) : Con Tryz.prog 14 [m.av, s.av] (jos (qbv m s)) := by
 have hs := qbw hM hf
 have hft := qdu m s hs
 rw [hf] at hft
 have h0 := ((jj m s).1 hf).1
 have hz := hM.sz
 have hpl := qvj m hM s
 have hcl := h0.2.2.1
 have hpz := hM.psz
 refine qc (T := tab Tryz.prog) (C := {owns := [(5, (51, 4))]}) 300 (fun _ => rfl) Tryz.func14 rfl (by kernel_rfl) (by kernel_rfl) (fun c0 rdb => ?_)
 (repeat' ((conv => whnf); first | refine zC 300 (hft) ?_ | (apply zB <;> intro hb <;> (try simp [-zd] at hb) <;> try (exfalso; omega))))
 ((conv => whnf); refine qt (fun _ => rfl) 300 1 (fun i : Nat => [(18, iv i), (5, .own 2 0 0 (jq m s i).length)]) (fun i => [(2, .row [] 51 4 0 (jq m s i).length (encL Mv.cells {} (jq m s i)))]) (fun i => i ≤ m.procs.length) (fun i => m.procs.length - i) (0) (Nat.zero_le _) qa ⟨qbp (fun k hk => absurd hk (Nat.not_lt_zero k)), trivial⟩ (fun _ => rfl) (by kernel_rfl) ?_; (conv => whnf))
 intro i hi
 have hpi := hpl i hi
 (repeat' ((conv => whnf); first | refine Ob.auto ?_ | (apply zB <;> intro hb <;> (try simp [-zd] at hb) <;> try (exfalso; omega))))
 ·have hp1 : jq m s (i + 1) = jq m s i := by rw [qvh, if_pos hb, List.append_nil]
  ((conv => whnf); refine ⟨i + 1, by omega, ⟨⟨Le.refl _, Le.of_eq (congrArg (fun l => AV.own 2 0 0 (List.length l)) hp1.symm), trivial⟩, ⟨qll Mv.cells {} hp1.symm, trivial⟩⟩, ⟨qa, qa⟩, ?_⟩; (first | omega | (dsimp only; omega) | skip))
 ·have hp1 : jq m s (i + 1) = jq m s i ++ qik m s i := by rw [qvh, if_neg (fun h => h.2 (hb h.1))]
  have hil : i < m.procs.length := by assumption
  have hpe := (hpz _ (ql m.procs i Pr.none hil)).1
  have hel : (qu m i).length ≤ 40000 := hpe
  have he0 : jq m s i ++ qdv m s i 0 = jq m s i := List.append_nil _
  ((conv => whnf); refine qhw (fun _ => rfl) 300 2 [2, 3, 4, 6, 18, 33, 34, 16, 17] [0, 1, 3] (fun j : Nat => [(35, iv j), (5, .own 2 0 0 (jq m s i ++ qdv m s i j).length)]) (fun j => [(2, .row [] 51 4 0 (jq m s i ++ qdv m s i j).length (encL Mv.cells {} (jq m s i ++ qdv m s i j)))]) (fun j => j ≤ (qu m i).length) (fun j => (qu m i).length - j) (0) (Nat.zero_le _) ⟨Le.refl _, Le.of_eq (congrArg (fun l => AV.own 2 0 0 (List.length l)) he0.symm), trivial⟩ ⟨qll Mv.cells {} he0.symm, trivial⟩ (fun _ => rfl) (by kernel_rfl) ?_; (conv => whnf))
  intro j hj
  have hen := jde m s i j
  have hsum : (jq m s i ++ qdv m s i j).length ≤ 200000 := by rw [List.length_append]; omega
  generalize hL : jq m s i ++ qdv m s i j = L at hsum ⊢
  (repeat' ((conv => whnf); first | refine Ob.auto ?_ | refine zC 300 (qvd m hM.ok s hf hs i hil ((qu m i).getD j Ed.none) (edOk hM hil (by exact hb))) ?_ | (apply zB <;> intro hb <;> (try simp [-zd] at hb) <;> try (exfalso; omega))))
  ·have hjl : j < (qu m i).length := by assumption
   have hE : L ++ [⟨0, i, j, 0⟩] = jq m s i ++ qdv m s i (j + 1) := by rw [jdd, if_pos hb, ← List.append_assoc, hL]
   ((conv => whnf); refine ⟨j + 1, hjl, ⟨⟨Le.refl _, qvl hE 2, trivial⟩, ⟨qvk Mv.cells {} hE rfl, trivial⟩⟩, ⟨qa, qa⟩, ?_⟩; (first | omega | (dsimp only; omega) | skip))
  ·have hjl : j < (qu m i).length := by assumption
   have hE : L = jq m s i ++ qdv m s i (j + 1) := by rw [jdd, if_neg (by rw [hb]; decide), List.append_nil, hL]
   ((conv => whnf); refine ⟨j + 1, hjl, ⟨⟨Le.refl _, qqz hE 2, trivial⟩, ⟨qll Mv.cells {} hE, trivial⟩⟩, ⟨qa, qa⟩, ?_⟩; (first | omega | (dsimp only; omega) | skip))
  ·have hjl : (qu m i).length ≤ j := by assumption
   obtain rfl : j = (qu m i).length := by omega
   rw [jpo, ← hp1] at hL
   ((conv => whnf); refine ⟨i + 1, hil, ⟨⟨Le.refl _, qqz hL.symm 2, trivial⟩, ⟨qll Mv.cells {} hL.symm, trivial⟩⟩, ⟨qa, qa⟩, ?_⟩; (first | omega | (dsimp only; omega) | skip))
 ·have hmv : qbv m s = jq m s i := by
   obtain rfl : i = m.procs.length := by omega
   unfold qbv
   rw [if_neg (by assumption), List.append_nil]; rfl
  rw [hmv]
  exact Le.refl _
 ·obtain rfl : i = m.procs.length := by omega
  have hmv : qbv m s = jq m s m.procs.length ++ qcn m s m.chans.length := by
   unfold qbv
   rw [if_pos (by assumption)]; rfl
  have he0 : jq m s m.procs.length ++ qcn m s 0 = jq m s m.procs.length := List.append_nil _
  ((conv => whnf); refine qt (fun _ => rfl) 300 2 (fun c : Nat => [(60, iv c), (5, .own 2 0 0 (jq m s m.procs.length ++ qcn m s c).length)]) (fun c => [(2, .row [] 51 4 0 (jq m s m.procs.length ++ qcn m s c).length (encL Mv.cells {} (jq m s m.procs.length ++ qcn m s c)))]) (fun c => c ≤ m.chans.length) (fun c => m.chans.length - c) (0) (Nat.zero_le _) ⟨Le.refl _, qqz he0.symm 2, trivial⟩ ⟨qll Mv.cells {} he0.symm, trivial⟩ (fun _ => rfl) (by kernel_rfl) ?_; (conv => whnf))
  intro c hc
  have hcn := qvi m s c
  have hsum : (jq m s m.procs.length ++ qcn m s c).length ≤ 200000 := by rw [List.length_append]; omega
  generalize hL : jq m s m.procs.length ++ qcn m s c = L at hsum ⊢
  (repeat' ((conv => whnf); first | refine Ob.auto ?_ | refine zC 300 (jcp m hM.ok s hcl c (by omega)) ?_ | refine zC 300 (jcq m hM.ok s hcl c (by omega)) ?_ | (apply zB <;> intro hb <;> (try simp [-zd] at hb) <;> try (exfalso; omega))))
  ·have hE : L ++ [⟨1, 0, 0, c⟩, ⟨2, 0, 0, c⟩] = jq m s m.procs.length ++ qcn m s (c + 1) := by rw [qnz, ← List.append_assoc, hL]; simp [qfk, *]
   ((conv => whnf); refine ⟨c + 1, by omega, ⟨⟨Le.refl _, jpr hE 2, trivial⟩, ⟨jpq Mv.cells {} hE rfl rfl, trivial⟩⟩, ⟨qa, qa⟩, ?_⟩; (first | omega | (dsimp only; omega) | skip))
  ·have hE : L ++ [⟨1, 0, 0, c⟩] = jq m s m.procs.length ++ qcn m s (c + 1) := by rw [qnz, ← List.append_assoc, hL]; simp [qfk, *]
   ((conv => whnf); refine ⟨c + 1, by omega, ⟨⟨Le.refl _, qvl hE 2, trivial⟩, ⟨qvk Mv.cells {} hE rfl, trivial⟩⟩, ⟨qa, qa⟩, ?_⟩; (first | omega | (dsimp only; omega) | skip))
  ·have hE : L ++ [⟨2, 0, 0, c⟩] = jq m s m.procs.length ++ qcn m s (c + 1) := by rw [qnz, ← List.append_assoc, hL]; simp [qfk, *]
   ((conv => whnf); refine ⟨c + 1, by omega, ⟨⟨Le.refl _, qvl hE 2, trivial⟩, ⟨qvk Mv.cells {} hE rfl, trivial⟩⟩, ⟨qa, qa⟩, ?_⟩; (first | omega | (dsimp only; omega) | skip))
  ·have hE : L = jq m s m.procs.length ++ qcn m s (c + 1) := by rw [qnz, ← List.append_assoc, hL]; simp [qfk, *]
   ((conv => whnf); refine ⟨c + 1, by omega, ⟨⟨Le.refl _, qqz hE 2, trivial⟩, ⟨qll Mv.cells {} hE, trivial⟩⟩, ⟨qa, qa⟩, ?_⟩; (first | omega | (dsimp only; omega) | skip))
  ·obtain rfl : c = m.chans.length := by omega
   rw [hmv, hL]
   exact Le.refl _
end Go.Proofs.YtdoaagphhjggbaaGreat
end
section
/- Contracts: what is dead, or bad. -/
namespace Go.Proofs.YtdoaagphhjggbaaGreat
open List renaming getD_eq_getElem?_getD → zd
open Go Go.Sx Go.RowKit Go.St
set_option maxRecDepth 100000
set_option maxHeartbeats 4000000
theorem jdf (m : Md) (hM : ModOk m) (s : Stt) (hs : SSz s) : Con Tryz.prog 16 [m.av, s.av] (.bool (qp m s && qqv m s)) := by
 have hft := qdu m s hs
 by_cases hf : qp m s = true
 ·have hmv := qoa m hM s hf
  have h0 := (jj m s).1 hf
  have hz := hM.sz
  have hr := fun (q : Pr) hq => (hM.pr q hq).rl
  rw [hf] at hft
  rw [hf, Bool.true_and]
  unfold qqv
  generalize hL : qbv m s = L at hmv
  refine qc (T := tab Tryz.prog) (C := {}) 300 (fun _ => rfl) Tryz.func16 rfl (by kernel_rfl) (by kernel_rfl) (fun c0 rdb => ?_)
  (repeat' ((conv => whnf); first | refine Ob.auto ?_ | refine zC 300 (hft) ?_ | refine zG 300 (fun hg => hmv) ?_ | (apply zB <;> intro hb <;> (try simp [-zd] at hb) <;> try (exfalso; omega))))
  ·rw [show L.isEmpty = false from by cases L with | nil => simp at hb | cons a b => rfl]
   exact Le.refl _
  ·subst hb
   have hat := h0.1.1
   have hfa := h0.2.1
   ((conv => whnf); refine qt (fun _ => rfl) 300 1 (fun i : Nat => [(21, iv i), (4, .bool false)]) (fun _ => []) (fun i => i ≤ m.procs.length ∧ ∀ j, j < i → (m.procs.getD j Pr.none).rest.getD (s.at_.getD j 0).toNat false = true) (fun i => m.procs.length - i) (0) (⟨Nat.zero_le _, fun j hj => absurd hj (Nat.not_lt_zero j)⟩) qa qa (fun _ => rfl) (by kernel_rfl) ?_; (conv => whnf))
   intro i hi
   have hri : i < m.procs.length → 0 ≤ s.at_.getD i 0 ∧ s.at_.getD i 0 < ((m.procs.getD i Pr.none).rest.length : Int) := fun h => by
    have h1 := hfa i (by omega)
    have h2 := hr _ (ql m.procs i Pr.none h)
    unfold qkq at h1
    omega
   (repeat' ((conv => whnf); first | refine zO ?_ | refine Ob.auto ?_ | refine zD 300 ?_ | (apply zB <;> intro hb <;> (try simp [-zd] at hb) <;> try (exfalso; omega))))
   ·rw [show qvb m s = false from qqb (i := i) (by omega) (by assumption)]
    exact Le.refl _
   ·((conv => whnf); refine ⟨i + 1, ⟨by omega, qaa hi.2 (by assumption)⟩, ⟨qa, qa⟩, ⟨qa, qa⟩, ?_⟩; (first | omega | (dsimp only; omega) | skip))
   ·rw [show qvb m s = true from qjh fun j hj => hi.2 j (by omega)]
    exact Le.refl _
 ·rw [Bool.not_eq_true] at hf
  rw [hf] at hft
  rw [hf]
  refine qc (T := tab Tryz.prog) (C := {}) 300 (fun _ => rfl) Tryz.func16 rfl (by kernel_rfl) (by kernel_rfl) (fun c0 rdb => ?_)
  (repeat' ((conv => whnf); first | refine Ob.auto ?_ | refine zC 300 (hft) ?_ | refine zG 300 (fun hg => (absurd hg (by decide) : Con Tryz.prog 14 [m.av, s.av] (.slc 4 0 (fun _ => [])))) ?_ | (apply zB <;> intro hb <;> (try simp [-zd] at hb) <;> try (exfalso; omega))))
  exact Le.refl _
theorem jps (m : Md) (hM : ModOk m) (s : Stt) (hs : SSz s) : Con Tryz.prog 18 [m.av, s.av] (.bool (qp m s && badB m s)) := by
 have hft := qdu m s hs
 have hsf := jpe m hM.ok s hs
 have hdd := jdf m hM s hs
 by_cases hf : qp m s = true
 ·rw [hf] at hft hsf hdd
  rw [hf, Bool.true_and]
  have e : (m.safe.isEmpty || (true && qmq m s)) = qmq m s := by
   rw [Bool.true_and]
   unfold qmq
   cases m.safe with
   | nil => rfl
   | cons a b => rfl
  rw [e] at hsf
  rw [Bool.true_and] at hdd
  unfold badB
  refine qc (T := tab Tryz.prog) (C := {}) 300 (fun _ => rfl) Tryz.func18 rfl (by kernel_rfl) (by kernel_rfl) (fun c0 rdb => ?_)
  (repeat' ((conv => whnf); first | refine Ob.auto ?_ | refine zC 300 (hft) ?_ | refine zC 300 (hsf) ?_ | refine zG 300 (fun hg => hdd) ?_ | (apply zB <;> intro hb <;> (try simp [-zd] at hb) <;> try (exfalso; omega))))
  exact Le.refl _
 ·rw [Bool.not_eq_true] at hf
  rw [hf] at hft
  rw [hf]
  refine qc (T := tab Tryz.prog) (C := {}) 300 (fun _ => rfl) Tryz.func18 rfl (by kernel_rfl) (by kernel_rfl) (fun c0 rdb => ?_)
  (repeat' ((conv => whnf); first | refine Ob.auto ?_ | refine zC 300 (hft) ?_ | (apply zB <;> intro hb <;> (try simp [-zd] at hb) <;> try (exfalso; omega))))
  exact Le.refl _
end Go.Proofs.YtdoaagphhjggbaaGreat
end
section
/- The example of layer 15. -/
namespace Go.Proofs.YtdoaagphhjggbaaGreat
open Go Go.Sx Go.RowKit Go.St
set_option maxRecDepth 100000
set_option maxHeartbeats 2000000
def st15 : Stt := qnv model15 (jk model15) {}
theorem do_15 : doB model15 (jk model15) {} = true := by decide +kernel
theorem jpt : qp model15 (jk model15) = true := by decide +kernel
theorem jdg : qp model15 st15 = true := by decide +kernel
theorem jpu : qlg model15 st15 0 1 = false := by decide +kernel
theorem jpv : (qp model15 st15 && qqv model15 st15) = true := by decide +kernel
theorem jpw : (qp model15 st15 && badB model15 st15) = false := by decide +kernel
theorem jpx : qbv model15 st15 = [] := by decide +kernel
theorem jpy : Con Tryz.prog 10 [] (.bool true) := by
 have hm := joo
 have s0 := qbw hm jpt
 have s1 := qbw hm jdg
 have h1 := jor model15 hm.ok
 have h2 := qvg model15 hm (jk model15) s0 {}
 rw [do_15] at h2
 have h3 := jcs model15 hm.ok st15 s1 (fun q hq => (hm.pr q hq).ed) 0 1
 rw [jpu] at h3
 have h4 := jdf model15 hm st15 s1
 rw [jpv] at h4
 have h5 := jps model15 hm st15 s1
 rw [jpw] at h5
 have h6 := qoa model15 hm st15 jdg
 rw [jpx] at h6
 refine qc (T := tab Tryz.prog) (C := {}) 300 (fun _ => rfl) Tryz.func10 rfl (by kernel_rfl) (by kernel_rfl) (fun c0 rdb => ?_)
 (repeat' ((conv => whnf); first | refine zO ?_ | refine Ob.auto ?_ | refine zC 300 (jom) ?_ | refine zC 300 (jon) ?_ | refine zX (h1) ?_ | refine zX (h2) ?_ | refine zG 300 (fun hg => h3) ?_ | refine zG 300 (fun hg => h4) ?_ | refine zG 300 (fun hg => h5) ?_ | refine zG 300 (fun hg => h6) ?_ | (refine zR 300 ?_) | fail))
 exact Le.refl _
end Go.Proofs.YtdoaagphhjggbaaGreat
end
section
/- Contract: a tree's model, as the laws of chapter 15 make it. -/
namespace Go.Proofs.YtdoaagphhjggbaaGreat
open Go Go.Sx Go.RowKit Go.St
set_option maxRecDepth 100000
set_option maxHeartbeats 8000000
theorem jpz (l : List Nd) (hl : l.length ≤ 9223372036854775807) (hz : ∀ n ∈ l, NdSz n) : Con Tryz.prog 11 [jo l] (.tup [(qer l).1.av, .bool (qer l).2]) := by
 have hm : Tree l → Con Tryz.prog 37 [jo l] (.tup [(if (qbq l).1 = 0 then qep l else mdZ).av, .bool (decide ((qbq l).1 = 0))]) := fun ht => by
  by_cases h : (qbq l).1 = 0
  ·rw [if_pos h, decide_eq_true h]; exact jch l ht h
  ·rw [if_neg h, decide_eq_false h]; exact jol l ht h
 refine qc (T := tab Tryz.prog) (C := {}) 300 (fun _ => rfl) Tryz.func11 rfl (by kernel_rfl) (by kernel_rfl) (fun c0 rdb => ?_)
 (repeat' ((conv => whnf); first | refine Ob.auto ?_ | refine zC 300 (jng l hl) ?_ | refine zG 300 (fun hg => jnf l hl hz) ?_ | (apply zB <;> intro hb <;> (try simp [-List.getD_eq_getElem?_getD] at hb) <;> try (exfalso; omega))))
 ·have e : qer l = (mdZ, false) := if_neg fun h => by
   rcases hb with hb | hb
   ·omega
   ·rw [hb] at h; simp at h
  rw [e]
  exact Le.tup ⟨jci, Le.refl _, trivial⟩
 ·((conv => whnf); refine qee (fun _ => rfl) 300 (hm (qqo hb.2)) (by rfl) leA (by kernel_rfl) ?_)
  (repeat' ((conv => whnf); first | refine Ob.auto ?_ | fail))
  have e : qer l = (if (qbq l).1 = 0 then qep l else mdZ, decide ((qbq l).1 = 0)) := by
   unfold qer
   by_cases h : (qbq l).1 = 0
   ·rw [if_pos ⟨hb, h⟩, if_pos h, decide_eq_true h]
   ·rw [if_neg (fun g => h g.2), if_neg h, decide_eq_false h]
  rw [e]
  exact Le.refl _
end Go.Proofs.YtdoaagphhjggbaaGreat
end
section
/- Contracts: which states are the same, by the document's answer. -/
namespace Go.Proofs.YtdoaagphhjggbaaGreat
open List renaming getD_eq_getElem?_getD → zd
open Go Go.Sx Go.RowKit Go.St
set_option maxRecDepth 100000
set_option maxHeartbeats 2000000
theorem qvm (a b : List Int) (ha : a.length ≤ 1000000) : Con Tryz.prog 53 [ints a, ints b] (.bool (a == b)) := by
 refine qc (T := tab Tryz.prog) (C := {}) 300 (fun _ => rfl) Tryz.func53 rfl (by kernel_rfl) (by kernel_rfl) (fun c0 rdb => ?_)
 (repeat' ((conv => whnf); first | refine Ob.auto ?_ | (apply zB <;> intro hb <;> (try simp [-zd] at hb) <;> try (exfalso; omega))))
 ·refine Le.of_eq (congrArg AV.bool ?_)
  exact (beq_eq_false_iff_ne.2 (fun h => by subst h; simp at hb)).symm
 ·((conv => whnf); refine qt (fun _ => rfl) 300 1 (fun i : Nat => [(5, iv i)]) (fun _ => []) (fun i => i ≤ a.length ∧ ∀ j, j < i → a.getD j 0 = b.getD j 0) (fun i => a.length - i) (0) (⟨by omega, fun j hj => absurd hj (Nat.not_lt_zero j)⟩) qa qa (fun _ => rfl) (by kernel_rfl) ?_; (conv => whnf))
  intro i hi
  (repeat' ((conv => whnf); first | refine zO ?_ | refine Ob.auto ?_ | refine zD 300 ?_ | (apply zB <;> intro hb <;> (try simp [-zd] at hb) <;> try (exfalso; omega))))
  ·refine Le.of_eq (congrArg AV.bool ?_)
   exact (beq_eq_false_iff_ne.2 (fun h => by subst h; simp at hb)).symm
  ·((conv => whnf); refine ⟨i + 1, ⟨by omega, qaa hi.2 hb⟩, ⟨qa, qa⟩, ⟨qa, qa⟩, ?_⟩; (first | omega | (dsimp only; omega) | skip))
  ·refine Le.of_eq (congrArg AV.bool ?_)
   exact (beq_iff_eq.2 (qyx 0 (by omega) (fun j hj => hi.2 j (by omega)))).symm
theorem jdh (a b : Stt) (ha : SSz a) : Con Tryz.prog 23 [a.av, b.av] (.bool (qku a b)) := by
 have h1 := ha.a
 have h2 := ha.v
 have h3 := ha.c
 have h4 := ha.l
 refine qc (T := tab Tryz.prog) (C := {}) 300 (fun _ => rfl) Tryz.func23 rfl (by kernel_rfl) (by kernel_rfl) (fun c0 rdb => ?_)
 (repeat' ((conv => whnf); first | refine Ob.auto ?_ | refine zC 300 (qvm a.at_ b.at_ h1) ?_ | refine zG 300 (fun hg => qvm a.vars b.vars h2) ?_ | (apply zB <;> intro hb <;> (try simp [-zd] at hb) <;> try (exfalso; omega))))
 ·refine Le.of_eq (congrArg AV.bool ?_)
  refine Eq.symm ?_
  unfold qku
  rw [Bool.eq_false_iff]
  intro h
  simp only [Bool.and_eq_true, beq_iff_eq] at h
  obtain ⟨⟨⟨e1, e2⟩, e3⟩, e4⟩ := h
  rw [e3] at hb
  simp [e1, e2, e4] at hb
 ·obtain ⟨⟨⟨e1, e2⟩, e3⟩, e4⟩ := hb
  ((conv => whnf); refine qt (fun _ => rfl) 300 1 (fun i : Nat => [(5, iv i)]) (fun _ => []) (fun i => i ≤ a.chans.length ∧ ∀ j, j < i → a.chans.getD j [] = b.chans.getD j []) (fun i => a.chans.length - i) (0) (⟨Nat.zero_le _, fun j hj => absurd hj (Nat.not_lt_zero j)⟩) qa qa (fun _ => rfl) (by kernel_rfl) ?_; (conv => whnf))
  intro i hi
  have hli : i < a.chans.length → _ := fun h => h4 _ (ql a.chans i [] h)
  (repeat' ((conv => whnf); first | refine zA ?_ | refine Ob.auto ?_ | (refine CallY.con (qvm (a.chans.getD i []) (b.chans.getD i []) (hli (by omega))) (by rfl) leA ?_) | (refine zQ 300 ?_) | (apply zB <;> intro hb <;> (try simp [-zd] at hb) <;> try (exfalso; omega))))
  ·refine Le.of_eq (congrArg AV.bool ?_)
   refine Eq.symm ?_
   unfold qku
   rw [Bool.eq_false_iff]
   intro h
   simp only [Bool.and_eq_true, beq_iff_eq] at h
   rw [h.1.2] at hb
   exact hb rfl
  ·((conv => whnf); refine ⟨i + 1, ⟨by omega, qaa hi.2 hb⟩, ⟨qa, qa⟩, ⟨qa, qa⟩, ?_⟩; (first | omega | (dsimp only; omega) | skip))
  ·refine Le.of_eq (congrArg AV.bool ?_)
   unfold qku
   rw [e1, e2, e4, qyx [] (by omega) (fun j hj => hi.2 j (by omega))]
   simp
end Go.Proofs.YtdoaagphhjggbaaGreat
end
