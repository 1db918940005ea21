/- Some texts of the library, one behind the other. -/
import Derived.Test.YtdoaagphhjggbaaQ36
import Derived.Test.YtdoaagphhjggbaaQ2
import Derived.Test.YtdoaagphhjggbaaQ33
import Derived.Test.YtdoaagphhjggbaaQSp6
section
/- Contracts: all moves of a state; what is dead, or bad. -/
namespace Go.Proofs.Ytdoaagphhjggbaa
open Go Go.Sx Go.RowKit Go.St
set_option maxRecDepth 100000
set_option maxHeartbeats 4000000

def qab (m : Md) (s : Stt) (i : Nat) : List Mv := (List.range i).flatMap (fun (p : Nat) => if s.holder ≠ -1 ∧ s.holder ≠ p then [] else qlx m s p)
def qeb (m : Md) (s : Stt) (p j : Nat) : List Mv := ((List.range j).filter fun i => canB m s p ((qv m p).getD i Ed.none)).map fun (i : Nat) => ⟨0, p, i, 0⟩
def qdg (m : Md) (s : Stt) (c : Nat) : List Mv := (List.range c).flatMap (qhq m s)

theorem qvp (m : Md) (s : Stt) (i : Nat) : qab m s (i + 1) = qab m s i ++ (if s.holder ≠ -1 ∧ s.holder ≠ (i : Int) then [] else qlx m s i) := by
 unfold qab
 rw [List.range_succ, List.flatMap_append]; simp
theorem jcy (m : Md) (s : Stt) (p j : Nat) : qeb m s p (j + 1) = qeb m s p j ++ (if canB m s p ((qv m p).getD j Ed.none) = true then [⟨0, p, j, 0⟩] else []) := by
 unfold qeb
 rw [List.range_succ, List.filter_append, List.map_append]
 congr 1
 by_cases h : canB m s p ((qv m p).getD j Ed.none) = true
 ·rw [if_pos h, List.filter_cons, if_pos h]; rfl
 ·rw [if_neg h, List.filter_cons, if_neg h]; rfl
theorem qoy (m : Md) (s : Stt) (c : Nat) : qdg m s (c + 1) = qdg m s c ++ qhq m s c := by
 unfold qdg
 rw [List.range_succ, List.flatMap_append]; simp
theorem joh (m : Md) (s : Stt) (p : Nat) : qeb m s p (qv m p).length = qlx m s p := rfl
theorem joi (m : Md) (s : Stt) (c : Nat) : (qhq m s c).length ≤ 2 := by
 unfold qhq
 rw [List.length_append]
 split <;> split <;> simp
theorem jcz (m : Md) (s : Stt) : ∀ c, (qdg m s c).length ≤ 2 * c
 | 0 => by simp [qdg]
 | c + 1 => by rw [qoy, List.length_append]; have := jcz m s c; have := joi m s c; omega
theorem jda (m : Md) (s : Stt) (p j : Nat) : (qeb m s p j).length ≤ j := by
 unfold qeb
 rw [List.length_map]
 exact Nat.le_trans (List.length_filter_le _ _) (by simp)
theorem jdb (m : Md) (hM : ModOk m) (s : Stt) : ∀ i, i ≤ m.procs.length → (qab m s i).length ≤ 40000 * i
 | 0, _ => by simp [qab]
 | i + 1, h => by
  have h1 := jdb m hM s i (by omega)
  have h2 := (hM.psz _ (qp m.procs i Pr.none (by omega))).1
  have h3 : (qlx m s i).length ≤ (qv m i).length := jda m s i _
  have h4 : (qv m i).length ≤ 40000 := h2
  rw [qvp, List.length_append]
  split
  ·simp; omega
  ·omega

theorem qmk {α : Type} (enc : α → List AV) (d : α) {l l' : List α} (h : l = l') {ids : List Nat} {e : TypeId} {sz ep : Nat} : SoLe (.row ids e sz ep l.length (encL enc d l)) (.row ids e sz ep l'.length (encL enc d l')) := by
 subst h; exact SoLe.refl _

theorem qvq {α : Type} (enc : α → List AV) (d : α) {l l' : List α} {x : α} (h : l ++ [x] = l') {ids : List Nat} {e : TypeId} {sz ep : Nat} {g : Nat → List AV} (hg : g 0 = enc x) : SoLe (.row ids e sz ep (l.length + 1) (appF l.length (encL enc d l) 1 g)) (.row ids e sz ep l'.length (encL enc d l')) := by
 subst h; exact ⟨⟨rfl, rfl, rfl⟩, rfl, by rw [List.length_append]; rfl, qtp hg⟩

theorem joj {α : Type} (enc : α → List AV) (d : α) {l l' : List α} {x y : α} (h : l ++ [x, y] = l') {ids : List Nat} {e : TypeId} {sz ep : Nat} {g g' : Nat → List AV} (hg : g 0 = enc x) (hg' : g' 0 = enc y) : SoLe (.row ids e sz ep (l.length + 1 + 1) (appF (l.length + 1) (appF l.length (encL enc d l) 1 g) 1 g')) (.row ids e sz ep l'.length (encL enc d l')) := by
 have h2 : l ++ [x] ++ [y] = l' := by rw [← h]; simp
 subst h2
 refine ⟨⟨rfl, rfl, rfl⟩, rfl, by rw [List.length_append, List.length_append]; rfl, fun j hj => ?_⟩
 have hlen : (l ++ [x]).length = l.length + 1 := by rw [List.length_append]; rfl
 by_cases hl : j < l.length + 1
 ·have h1 := qtp (d := d) (L := l) hg j hl
  have e1 : appF (l.length + 1) (appF l.length (encL enc d l) 1 g) 1 g' j = appF l.length (encL enc d l) 1 g j := if_pos hl
  have e2 : encL enc d (l ++ [x] ++ [y]) j = encL enc d (l ++ [x]) j := by unfold encL; rw [qjl, if_pos (by omega)]
  rw [e1, e2]; exact h1
 ·obtain rfl : j = l.length + 1 := by omega
  have e1 : appF (l.length + 1) (appF l.length (encL enc d l) 1 g) 1 g' (l.length + 1) = g' 0 := by unfold appF; rw [if_neg (by omega), if_pos (by omega), Nat.sub_self]
  have e2 : encL enc d (l ++ [x] ++ [y]) (l.length + 1) = enc y := by unfold encL; rw [qjl, if_neg (by omega), if_pos hlen.symm]
  rw [e1, e2, hg']; exact LeL.refl _

theorem jok {α : Type} {l l' : List α} {x y : α} (h : l ++ [x, y] = l') (r : Nat) : Le (.own r 0 0 (l.length + 1 + 1)) (.own r 0 0 l'.length) := by
 subst h; exact Le.of_eq (by rw [List.length_append]; rfl)

theorem qvr {α : Type} {l l' : List α} {x : α} (h : l ++ [x] = l') (r : Nat) : Le (.own r 0 0 (l.length + 1)) (.own r 0 0 l'.length) := by
 subst h; exact Le.of_eq (by rw [List.length_append]; rfl)

theorem qrw {α : Type} {l l' : List α} (h : l = l') (r : Nat) : Le (.own r 0 0 l.length) (.own r 0 0 l'.length) := by
 subst h; exact Le.refl _

theorem jdc (m : Md) (hM : ModOk m) (s : Stt) (hf : qy m s = true) : Con Try.prog 47 [m.av, s.av] (jnr (qir m s)) := by
 have hs := qem hM hf
 have hft := js m s hs
 rw [hf] at hft
 have h0 := ((qau m s).1 hf).1
 have hz := hM.sz
 have hpl := jdb m hM s
 have hcl := h0.2.2.1
 have hpz := hM.psz
 refine qi (T := tab Try.prog) (C := {owns := [(5, (56, 4))]}) 300 (fun _ => rfl) Try.func47 rfl (by kernel_rfl) (by kernel_rfl) (fun c0 rdb => ?_)
 (repeat' ((conv => whnf); first | refine zA ?_ | refine zO ?_ | refine Ob.auto ?_ | (refine Ob.intro (by (exact ⟨by omega, by omega⟩)) ?_) | refine zC 300 (hft) ?_ | refine zG 300 (fun hg => hft) ?_ | (refine CallY.con (hft) (by rfl) leA ?_) | (refine CallZ.con (fun hg => hft) qe (by rfl) ?_) | refine zE 300 (hft) ?_ | refine zF 300 (fun hg => hft) ?_ | refine zD 300 ?_ | (apply zB <;> intro hb <;> (try simp [-List.getD_eq_getElem?_getD] at hb) <;> try (exfalso; omega)) | refine Ob.intro ?_ ?_))
 ((conv => whnf); refine jf (fun _ => rfl) 300 1 (fun i : Nat => [(18, iv i), (5, .own 2 0 0 (qab m s i).length)]) (fun i => [(2, .row [] 56 4 0 (qab m s i).length (encL Mv.cells {} (qab m s i)))]) (fun i => i ≤ m.procs.length) (fun i => m.procs.length - i) (0) (Nat.zero_le _) qa ⟨qdl (fun k hk => absurd hk (Nat.not_lt_zero k)), trivial⟩ (fun _ => rfl) (by kernel_rfl) ?_; (conv => whnf))
 intro i hi
 have hpi := hpl i hi
 (repeat' ((conv => whnf); first | refine zA ?_ | refine zO ?_ | refine Ob.auto ?_ | (refine Ob.intro (by (exact ⟨by omega, by omega⟩)) ?_) | refine zD 300 ?_ | (apply zB <;> intro hb <;> (try simp [-List.getD_eq_getElem?_getD] at hb) <;> try (exfalso; omega)) | refine Ob.intro ?_ ?_))
 ·have hp1 : qab m s (i + 1) = qab m s i := by rw [qvp, if_pos hb, List.append_nil]
  ((conv => whnf); refine ⟨i + 1, by omega, ⟨⟨Le.refl _, Le.of_eq (congrArg (fun l => AV.own 2 0 0 (List.length l)) hp1.symm), trivial⟩, ⟨qmk Mv.cells {} hp1.symm, trivial⟩⟩, ⟨qa, qa⟩, ?_⟩; (first | omega | (dsimp only; omega) | skip))
 ·have hp1 : qab m s (i + 1) = qab m s i ++ qlx m s i := by rw [qvp, if_neg (fun h => h.2 (hb h.1))]
  have hil : i < m.procs.length := by assumption
  have hpe := (hpz _ (qp m.procs i Pr.none hil)).1
  have hel : (qv m i).length ≤ 40000 := hpe
  have he0 : qab m s i ++ qeb m s i 0 = qab m s i := List.append_nil _
  ((conv => whnf); refine qic (fun _ => rfl) 300 2 [2, 3, 4, 6, 18, 33, 34, 16, 17] [0, 1, 3] (fun j : Nat => [(35, iv j), (5, .own 2 0 0 (qab m s i ++ qeb m s i j).length)]) (fun j => [(2, .row [] 56 4 0 (qab m s i ++ qeb m s i j).length (encL Mv.cells {} (qab m s i ++ qeb m s i j)))]) (fun j => j ≤ (qv m i).length) (fun j => (qv m i).length - j) (0) (Nat.zero_le _) ⟨Le.refl _, Le.of_eq (congrArg (fun l => AV.own 2 0 0 (List.length l)) he0.symm), trivial⟩ ⟨qmk Mv.cells {} he0.symm, trivial⟩ (fun _ => rfl) (by kernel_rfl) ?_; (conv => whnf))
  intro j hj
  have hen := jda m s i j
  have hsum : (qab m s i ++ qeb m s i j).length ≤ 200000 := by rw [List.length_append]; omega
  generalize hL : qab m s i ++ qeb m s i j = L at hsum ⊢
  (repeat' ((conv => whnf); first | refine zA ?_ | refine zO ?_ | refine Ob.auto ?_ | (refine Ob.intro (by (exact ⟨by omega, by omega⟩)) ?_) | refine zC 300 (qel m hM.ok s hf hs i hil ((qv m i).getD j Ed.none) (edOk hM hil (by exact hb))) ?_ | refine zG 300 (fun hg => qel m hM.ok s hf hs i hil ((qv m i).getD j Ed.none) (edOk hM hil (by exact hb))) ?_ | (refine CallY.con (qel m hM.ok s hf hs i hil ((qv m i).getD j Ed.none) (edOk hM hil (by exact hb))) (by rfl) leA ?_) | (refine CallZ.con (fun hg => qel m hM.ok s hf hs i hil ((qv m i).getD j Ed.none) (edOk hM hil (by exact hb))) qe (by rfl) ?_) | refine zE 300 (qel m hM.ok s hf hs i hil ((qv m i).getD j Ed.none) (edOk hM hil (by exact hb))) ?_ | refine zF 300 (fun hg => qel m hM.ok s hf hs i hil ((qv m i).getD j Ed.none) (edOk hM hil (by exact hb))) ?_ | refine zD 300 ?_ | (apply zB <;> intro hb <;> (try simp [-List.getD_eq_getElem?_getD] at hb) <;> try (exfalso; omega)) | refine Ob.intro ?_ ?_))
  ·have hjl : j < (qv m i).length := by assumption
   have hE : L ++ [⟨0, i, j, 0⟩] = qab m s i ++ qeb m s i (j + 1) := by rw [jcy, if_pos hb, ← List.append_assoc, hL]
   ((conv => whnf); refine ⟨j + 1, hjl, ⟨⟨Le.refl _, qvr hE 2, trivial⟩, ⟨qvq Mv.cells {} hE rfl, trivial⟩⟩, ⟨qa, qa⟩, ?_⟩; (first | omega | (dsimp only; omega) | skip))
  ·have hjl : j < (qv m i).length := by assumption
   have hE : L = qab m s i ++ qeb m s i (j + 1) := by rw [jcy, if_neg (by rw [hb]; decide), List.append_nil, hL]
   ((conv => whnf); refine ⟨j + 1, hjl, ⟨⟨Le.refl _, qrw hE 2, trivial⟩, ⟨qmk Mv.cells {} hE, trivial⟩⟩, ⟨qa, qa⟩, ?_⟩; (first | omega | (dsimp only; omega) | skip))
  ·have hjl : (qv m i).length ≤ j := by assumption
   obtain rfl : j = (qv m i).length := by omega
   rw [joh, ← hp1] at hL
   ((conv => whnf); refine ⟨i + 1, hil, ⟨⟨Le.refl _, qrw hL.symm 2, trivial⟩, ⟨qmk Mv.cells {} hL.symm, trivial⟩⟩, ⟨qa, qa⟩, ?_⟩; (first | omega | (dsimp only; omega) | skip))
 ·have hmv : qir m s = qab m s i := by
   obtain rfl : i = m.procs.length := by omega
   unfold qir
   rw [if_neg (by assumption), List.append_nil]; rfl
  rw [hmv]
  exact Le.refl _
 ·obtain rfl : i = m.procs.length := by omega
  have hmv : qir m s = qab m s m.procs.length ++ qdg m s m.chans.length := by
   unfold qir
   rw [if_pos (by assumption)]; rfl
  have he0 : qab m s m.procs.length ++ qdg m s 0 = qab m s m.procs.length := List.append_nil _
  ((conv => whnf); refine jf (fun _ => rfl) 300 2 (fun c : Nat => [(60, iv c), (5, .own 2 0 0 (qab m s m.procs.length ++ qdg m s c).length)]) (fun c => [(2, .row [] 56 4 0 (qab m s m.procs.length ++ qdg m s c).length (encL Mv.cells {} (qab m s m.procs.length ++ qdg m s c)))]) (fun c => c ≤ m.chans.length) (fun c => m.chans.length - c) (0) (Nat.zero_le _) ⟨Le.refl _, qrw he0.symm 2, trivial⟩ ⟨qmk Mv.cells {} he0.symm, trivial⟩ (fun _ => rfl) (by kernel_rfl) ?_; (conv => whnf))
  intro c hc
  have hcn := jcz m s c
  have hsum : (qab m s m.procs.length ++ qdg m s c).length ≤ 200000 := by rw [List.length_append]; omega
  generalize hL : qab m s m.procs.length ++ qdg m s c = L at hsum ⊢
  (repeat' ((conv => whnf); first | refine zA ?_ | refine zO ?_ | refine Ob.auto ?_ | (refine Ob.intro (by (exact ⟨by omega, by omega⟩)) ?_) | refine zC 300 (qfg m hM.ok s hcl c (by omega)) ?_ | refine zG 300 (fun hg => qfg m hM.ok s hcl c (by omega)) ?_ | (refine CallY.con (qfg m hM.ok s hcl c (by omega)) (by rfl) leA ?_) | (refine CallZ.con (fun hg => qfg m hM.ok s hcl c (by omega)) qe (by rfl) ?_) | refine zC 300 (qfh m hM.ok s hcl c (by omega)) ?_ | refine zG 300 (fun hg => qfh m hM.ok s hcl c (by omega)) ?_ | (refine CallY.con (qfh m hM.ok s hcl c (by omega)) (by rfl) leA ?_) | (refine CallZ.con (fun hg => qfh m hM.ok s hcl c (by omega)) qe (by rfl) ?_) | refine zE 300 (qfg m hM.ok s hcl c (by omega)) ?_ | refine zF 300 (fun hg => qfg m hM.ok s hcl c (by omega)) ?_ | refine zE 300 (qfh m hM.ok s hcl c (by omega)) ?_ | refine zF 300 (fun hg => qfh m hM.ok s hcl c (by omega)) ?_ | refine zD 300 ?_ | (apply zB <;> intro hb <;> (try simp [-List.getD_eq_getElem?_getD] at hb) <;> try (exfalso; omega)) | refine Ob.intro ?_ ?_))
  ·have hE : L ++ [⟨1, 0, 0, c⟩, ⟨2, 0, 0, c⟩] = qab m s m.procs.length ++ qdg m s (c + 1) := by rw [qoy, ← List.append_assoc, hL]; simp [qhq, *]
   ((conv => whnf); refine ⟨c + 1, by omega, ⟨⟨Le.refl _, jok hE 2, trivial⟩, ⟨joj Mv.cells {} hE rfl rfl, trivial⟩⟩, ⟨qa, qa⟩, ?_⟩; (first | omega | (dsimp only; omega) | skip))
  ·have hE : L ++ [⟨1, 0, 0, c⟩] = qab m s m.procs.length ++ qdg m s (c + 1) := by rw [qoy, ← List.append_assoc, hL]; simp [qhq, *]
   ((conv => whnf); refine ⟨c + 1, by omega, ⟨⟨Le.refl _, qvr hE 2, trivial⟩, ⟨qvq Mv.cells {} hE rfl, trivial⟩⟩, ⟨qa, qa⟩, ?_⟩; (first | omega | (dsimp only; omega) | skip))
  ·have hE : L ++ [⟨2, 0, 0, c⟩] = qab m s m.procs.length ++ qdg m s (c + 1) := by rw [qoy, ← List.append_assoc, hL]; simp [qhq, *]
   ((conv => whnf); refine ⟨c + 1, by omega, ⟨⟨Le.refl _, qvr hE 2, trivial⟩, ⟨qvq Mv.cells {} hE rfl, trivial⟩⟩, ⟨qa, qa⟩, ?_⟩; (first | omega | (dsimp only; omega) | skip))
  ·have hE : L = qab m s m.procs.length ++ qdg m s (c + 1) := by rw [qoy, ← List.append_assoc, hL]; simp [qhq, *]
   ((conv => whnf); refine ⟨c + 1, by omega, ⟨⟨Le.refl _, qrw hE 2, trivial⟩, ⟨qmk Mv.cells {} hE, trivial⟩⟩, ⟨qa, qa⟩, ?_⟩; (first | omega | (dsimp only; omega) | skip))
  ·obtain rfl : c = m.chans.length := by omega
   rw [hmv, hL]
   exact Le.refl _

end Go.Proofs.Ytdoaagphhjggbaa
end
section
/- Contracts: what is dead, or bad. -/
namespace Go.Proofs.Ytdoaagphhjggbaa
open Go Go.Sx Go.RowKit Go.St
set_option maxRecDepth 100000
set_option maxHeartbeats 4000000

theorem jdd (m : Md) (hM : ModOk m) (s : Stt) (hs : SSz s) : Con Try.prog 45 [m.av, s.av] (.bool (qy m s && qrr m s)) := by
 have hft := js m s hs
 by_cases hf : qy m s = true
 ·have hmv := jdc m hM s hf
  have h0 := (qau m s).1 hf
  have hz := hM.sz
  have hr := fun (q : Pr) hq => (hM.pr q hq).rl
  rw [hf] at hft
  rw [hf, Bool.true_and]
  unfold qrr
  generalize hL : qir m s = L at hmv
  refine qi (T := tab Try.prog) (C := {}) 300 (fun _ => rfl) Try.func45 rfl (by kernel_rfl) (by kernel_rfl) (fun c0 rdb => ?_)
  (repeat' ((conv => whnf); first | refine zA ?_ | refine zO ?_ | refine Ob.auto ?_ | (refine Ob.intro (by (exact ⟨by omega, by omega⟩)) ?_) | refine zC 300 (hft) ?_ | refine zG 300 (fun hg => hft) ?_ | (refine CallY.con (hft) (by rfl) leA ?_) | (refine CallZ.con (fun hg => hft) qe (by rfl) ?_) | refine zC 300 (hmv) ?_ | refine zG 300 (fun hg => hmv) ?_ | (refine CallY.con (hmv) (by rfl) leA ?_) | (refine CallZ.con (fun hg => hmv) qe (by rfl) ?_) | refine zE 300 (hft) ?_ | refine zF 300 (fun hg => hft) ?_ | refine zE 300 (hmv) ?_ | refine zF 300 (fun hg => hmv) ?_ | refine zD 300 ?_ | (apply zB <;> intro hb <;> (try simp [-List.getD_eq_getElem?_getD] at hb) <;> try (exfalso; omega)) | refine Ob.intro ?_ ?_))
  ·rw [show L.isEmpty = false from by cases L with | nil => simp at hb | cons a b => rfl]
   exact Le.refl _
  ·subst hb
   have hat := h0.1.1
   have hfa := h0.2.1
   ((conv => whnf); refine jf (fun _ => rfl) 300 1 (fun i : Nat => [(21, iv i), (4, .bool false)]) (fun _ => []) (fun i => i ≤ m.procs.length ∧ ∀ j, j < i → (m.procs.getD j Pr.none).rest.getD (s.at_.getD j 0).toNat false = true) (fun i => m.procs.length - i) (0) (⟨Nat.zero_le _, fun j hj => absurd hj (Nat.not_lt_zero j)⟩) qa qa (fun _ => rfl) (by kernel_rfl) ?_; (conv => whnf))
   intro i hi
   have hri : i < m.procs.length → 0 ≤ s.at_.getD i 0 ∧ s.at_.getD i 0 < ((m.procs.getD i Pr.none).rest.length : Int) := fun h => by
    have h1 := hfa i (by omega)
    have h2 := hr _ (qp m.procs i Pr.none h)
    unfold qnv at h1
    omega
   (repeat' ((conv => whnf); first | refine zA ?_ | refine zO ?_ | refine Ob.auto ?_ | (refine Ob.intro (by (first | exact ⟨by omega, by omega⟩ | exact hri (by omega))) ?_) | refine zD 300 ?_ | (apply zB <;> intro hb <;> (try simp [-List.getD_eq_getElem?_getD] at hb) <;> try (exfalso; omega)) | refine Ob.intro ?_ ?_))
   ·rw [show qvl m s = false from qzc (i := i) (by omega) (by assumption)]
    exact Le.refl _
   ·((conv => whnf); refine ⟨i + 1, ⟨by omega, qcb hi.2 (by assumption)⟩, ⟨qa, qa⟩, ⟨qa, qa⟩, ?_⟩; (first | omega | (dsimp only; omega) | skip))
   ·rw [show qvl m s = true from qnu fun j hj => hi.2 j (by omega)]
    exact Le.refl _
 ·rw [Bool.not_eq_true] at hf
  rw [hf] at hft
  rw [hf]
  refine qi (T := tab Try.prog) (C := {}) 300 (fun _ => rfl) Try.func45 rfl (by kernel_rfl) (by kernel_rfl) (fun c0 rdb => ?_)
  (repeat' ((conv => whnf); first | refine zA ?_ | refine zO ?_ | refine Ob.auto ?_ | refine zC 300 (hft) ?_ | refine zG 300 (fun hg => hft) ?_ | (refine CallY.con (hft) (by rfl) leA ?_) | (refine CallZ.con (fun hg => hft) qe (by rfl) ?_) | refine zC 300 ((absurd hg (by decide) : Con Try.prog 47 [m.av, s.av] (.slc 4 0 (fun _ => [])))) ?_ | refine zG 300 (fun hg => (absurd hg (by decide) : Con Try.prog 47 [m.av, s.av] (.slc 4 0 (fun _ => [])))) ?_ | (refine CallY.con ((absurd hg (by decide) : Con Try.prog 47 [m.av, s.av] (.slc 4 0 (fun _ => [])))) (by rfl) leA ?_) | (refine CallZ.con (fun hg => (absurd hg (by decide) : Con Try.prog 47 [m.av, s.av] (.slc 4 0 (fun _ => [])))) qe (by rfl) ?_) | refine zE 300 (hft) ?_ | refine zF 300 (fun hg => hft) ?_ | refine zE 300 ((absurd hg (by decide) : Con Try.prog 47 [m.av, s.av] (.slc 4 0 (fun _ => [])))) ?_ | refine zF 300 (fun hg => (absurd hg (by decide) : Con Try.prog 47 [m.av, s.av] (.slc 4 0 (fun _ => [])))) ?_ | refine zD 300 ?_ | (apply zB <;> intro hb <;> (try simp [-List.getD_eq_getElem?_getD] at hb) <;> try (exfalso; omega)) | refine Ob.intro ?_ ?_))
  exact Le.refl _

theorem jol (m : Md) (hM : ModOk m) (s : Stt) (hs : SSz s) : Con Try.prog 46 [m.av, s.av] (.bool (qy m s && badB m s)) := by
 have hft := js m s hs
 have hsf := jnt m hM.ok s hs
 have hdd := jdd m hM s hs
 by_cases hf : qy m s = true
 ·rw [hf] at hft hsf hdd
  rw [hf, Bool.true_and]
  have e : (m.safe.isEmpty || (true && qnt m s)) = qnt m s := by
   rw [Bool.true_and]
   unfold qnt
   cases m.safe with
   | nil => rfl
   | cons a b => rfl
  rw [e] at hsf
  rw [Bool.true_and] at hdd
  unfold badB
  refine qi (T := tab Try.prog) (C := {}) 300 (fun _ => rfl) Try.func46 rfl (by kernel_rfl) (by kernel_rfl) (fun c0 rdb => ?_)
  (repeat' ((conv => whnf); first | refine zA ?_ | refine zO ?_ | refine Ob.auto ?_ | refine zC 300 (hft) ?_ | refine zG 300 (fun hg => hft) ?_ | (refine CallY.con (hft) (by rfl) leA ?_) | (refine CallZ.con (fun hg => hft) qe (by rfl) ?_) | refine zC 300 (hsf) ?_ | refine zG 300 (fun hg => hsf) ?_ | (refine CallY.con (hsf) (by rfl) leA ?_) | (refine CallZ.con (fun hg => hsf) qe (by rfl) ?_) | refine zC 300 (hdd) ?_ | refine zG 300 (fun hg => hdd) ?_ | (refine CallY.con (hdd) (by rfl) leA ?_) | (refine CallZ.con (fun hg => hdd) qe (by rfl) ?_) | refine zE 300 (hft) ?_ | refine zF 300 (fun hg => hft) ?_ | refine zE 300 (hsf) ?_ | refine zF 300 (fun hg => hsf) ?_ | refine zE 300 (hdd) ?_ | refine zF 300 (fun hg => hdd) ?_ | refine zD 300 ?_ | (apply zB <;> intro hb <;> (try simp [-List.getD_eq_getElem?_getD] at hb) <;> try (exfalso; omega)) | refine Ob.intro ?_ ?_))
  exact Le.refl _
 ·rw [Bool.not_eq_true] at hf
  rw [hf] at hft
  rw [hf]
  refine qi (T := tab Try.prog) (C := {}) 300 (fun _ => rfl) Try.func46 rfl (by kernel_rfl) (by kernel_rfl) (fun c0 rdb => ?_)
  (repeat' ((conv => whnf); first | refine zA ?_ | refine zO ?_ | refine Ob.auto ?_ | refine zC 300 (hft) ?_ | refine zG 300 (fun hg => hft) ?_ | (refine CallY.con (hft) (by rfl) leA ?_) | (refine CallZ.con (fun hg => hft) qe (by rfl) ?_) | refine zE 300 (hft) ?_ | refine zF 300 (fun hg => hft) ?_ | refine zD 300 ?_ | (apply zB <;> intro hb <;> (try simp [-List.getD_eq_getElem?_getD] at hb) <;> try (exfalso; omega)) | refine Ob.intro ?_ ?_))
  exact Le.refl _

end Go.Proofs.Ytdoaagphhjggbaa
end
section
/- The example of layer 15. -/
namespace Go.Proofs.Ytdoaagphhjggbaa
open Go Go.Sx Go.RowKit Go.St
set_option maxRecDepth 100000
set_option maxHeartbeats 2000000

def st15 : Stt := qrs model15 (qdx model15) {}

theorem do_15 : doB model15 (qdx model15) {} = true := by decide +kernel
theorem jom : qy model15 (qdx model15) = true := by decide +kernel
theorem jde : qy model15 st15 = true := by decide +kernel
theorem jon : qmi model15 st15 0 1 = false := by decide +kernel
theorem joo : (qy model15 st15 && qrr model15 st15) = true := by decide +kernel
theorem jop : (qy model15 st15 && badB model15 st15) = false := by decide +kernel
theorem joq : qir model15 st15 = [] := by decide +kernel

theorem qml : Con Try.prog 22 [] (.bool true) := by
 have hm := jno
 have s0 := qem hm jom
 have s1 := qem hm jde
 have h1 := jnq model15 hm.ok
 have h2 := jcx model15 hm (qdx model15) s0 {}
 rw [do_15] at h2
 have h3 := jci model15 hm.ok st15 s1 (fun q hq => (hm.pr q hq).ed) 0 1
 rw [jon] at h3
 have h4 := jdd model15 hm st15 s1
 rw [joo] at h4
 have h5 := jol model15 hm st15 s1
 rw [jop] at h5
 have h6 := jdc model15 hm st15 jde
 rw [joq] at h6
 refine qi (T := tab Try.prog) (C := {}) 300 (fun _ => rfl) Try.func22 rfl (by kernel_rfl) (by kernel_rfl) (fun c0 rdb => ?_)
 (repeat' ((conv => whnf); first | refine zO ?_ | refine Ob.auto ?_ | refine zC 300 (qlv) ?_ | refine zG 300 (fun hg => qlv) ?_ | refine zX (qlv) ?_ | refine zY (fun hg => qlv) ?_ | refine zC 300 (qlw) ?_ | refine zG 300 (fun hg => qlw) ?_ | refine zX (qlw) ?_ | refine zY (fun hg => qlw) ?_ | refine zC 300 (h1) ?_ | refine zG 300 (fun hg => h1) ?_ | refine zX (h1) ?_ | refine zY (fun hg => h1) ?_ | refine zC 300 (h2) ?_ | refine zG 300 (fun hg => h2) ?_ | refine zX (h2) ?_ | refine zY (fun hg => h2) ?_ | refine zC 300 (h3) ?_ | refine zG 300 (fun hg => h3) ?_ | refine zX (h3) ?_ | refine zY (fun hg => h3) ?_ | refine zC 300 (h4) ?_ | refine zG 300 (fun hg => h4) ?_ | refine zX (h4) ?_ | refine zY (fun hg => h4) ?_ | refine zC 300 (h5) ?_ | refine zG 300 (fun hg => h5) ?_ | refine zX (h5) ?_ | refine zY (fun hg => h5) ?_ | refine zC 300 (h6) ?_ | refine zG 300 (fun hg => h6) ?_ | refine zX (h6) ?_ | refine zY (fun hg => h6) ?_ | refine zE 300 (qlv) ?_ | refine zF 300 (fun hg => qlv) ?_ | refine zE 300 (qlw) ?_ | refine zF 300 (fun hg => qlw) ?_ | refine zE 300 (h1) ?_ | refine zF 300 (fun hg => h1) ?_ | refine zE 300 (h2) ?_ | refine zF 300 (fun hg => h2) ?_ | refine zE 300 (h3) ?_ | refine zF 300 (fun hg => h3) ?_ | refine zE 300 (h4) ?_ | refine zF 300 (fun hg => h4) ?_ | refine zE 300 (h5) ?_ | refine zF 300 (fun hg => h5) ?_ | refine zE 300 (h6) ?_ | refine zF 300 (fun hg => h6) ?_ | (refine qkx (fun _ => rfl) (by kernel_rfl) 300 ?_) | (apply zB <;> intro hb <;> (try simp [-List.getD_eq_getElem?_getD] at hb) <;> try (exfalso; omega)) | refine Ob.intro ?_ ?_))
 exact Le.refl _

end Go.Proofs.Ytdoaagphhjggbaa
end
