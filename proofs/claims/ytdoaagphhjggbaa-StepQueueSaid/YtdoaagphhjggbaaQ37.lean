/- Some texts of the library, one behind the other. -/
import Derived.Test.YtdoaagphhjggbaaQ35
import Derived.Test.YtdoaagphhjggbaaQ2
import Derived.Test.YtdoaagphhjggbaaQ32
import Derived.Test.YtdoaagphhjggbaaQ36
import Derived.Test.YtdoaagphhjggbaaQ4
section
namespace Go.Proofs.Ytdoaagphhjggbaa
open List renaming getD_eq_getElem?_getD → zd
open Go Go.Sx Go.RowKit Go.St
set_option maxRecDepth 100000
set_option maxHeartbeats 4000000
def jn (m : Md) (s : Stt) (i : Nat) : List Mv := (List.range i).flatMap (fun (p : Nat) => if s.holder ≠ -1 ∧ s.holder ≠ p then [] else qkq m s p)
def qdl (m : Md) (s : Stt) (p j : Nat) : List Mv := ((List.range j).filter fun i => canB m s p ((qp m p).getD i ed0)).map fun (i : Nat) => ⟨0, p, i, 0⟩
def qco (m : Md) (s : Stt) (c : Nat) : List Mv := (List.range c).flatMap (qgu m s)
theorem quq (m : Md) (s : Stt) (i : Nat) : jn m s (i + 1) = jn m s i ++ (if s.holder ≠ -1 ∧ s.holder ≠ (i : Int) then [] else qkq m s i) := by
 unfold jn
 rw [List.range_succ, List.flatMap_append]; simp
theorem jcc (m : Md) (s : Stt) (p j : Nat) : qdl m s p (j + 1) = qdl m s p j ++ (if canB m s p ((qp m p).getD j ed0) = true then [⟨0, p, j, 0⟩] else []) := by
 unfold qdl
 rw [List.range_succ, List.filter_append, List.map_append]
 congr 1
 by_cases h : canB m s p ((qp m p).getD j ed0) = true
 ·rw [if_pos h, List.filter_cons, if_pos h]; rfl
 ·rw [if_neg h, List.filter_cons, if_neg h]; rfl
theorem qnc (m : Md) (s : Stt) (c : Nat) : qco m s (c + 1) = qco m s c ++ qgu m s c := by
 unfold qco
 rw [List.range_succ, List.flatMap_append]; simp
theorem jof (m : Md) (s : Stt) (p : Nat) : qdl m s p (qp m p).length = qkq m s p := rfl
theorem jog (m : Md) (s : Stt) (c : Nat) : (qgu m s c).length ≤ 2 := by
 unfold qgu
 rw [List.length_append]
 split <;> split <;> simp
theorem jcd (m : Md) (s : Stt) : ∀ c, (qco m s c).length ≤ 2 * c
 | 0 => by simp [qco]
 | c + 1 => by rw [qnc, List.length_append]; have := jcd m s c; have := jog m s c; omega
theorem jce (m : Md) (s : Stt) (p j : Nat) : (qdl m s p j).length ≤ j := by
 unfold qdl
 rw [List.length_map]
 exact Nat.le_trans (List.length_filter_le _ _) (by simp)
theorem jcf (m : Md) (hM : ModOk m) (s : Stt) : ∀ i, i ≤ m.procs.length → (jn m s i).length ≤ 40000 * i
 | 0, _ => by simp [jn]
 | i + 1, h => by
  have h1 := jcf m hM s i (by omega)
  have h2 := (hM.psz _ (qo m.procs i pr0 (by omega))).1
  have h3 : (qkq m s i).length ≤ (qp m i).length := jce m s i _
  have h4 : (qp m i).length ≤ 40000 := h2
  rw [quq, List.length_append]
  split
  ·simp; omega
  ·omega
theorem qks {α : Type} (enc : α → List AV) (d : α) {l l' : List α} (h : l = l') {ids : List Nat} {e : TypeId} {sz ep : Nat} : SoLe (.row ids e sz ep l.length (encL enc d l)) (.row ids e sz ep l'.length (encL enc d l')) := by
 subst h; exact SoLe.refl _
theorem qur {α : Type} (enc : α → List AV) (d : α) {l l' : List α} {x : α} (h : l ++ [x] = l') {ids : List Nat} {e : TypeId} {sz ep : Nat} {g : Nat → List AV} (hg : g 0 = enc x) : SoLe (.row ids e sz ep (l.length + 1) (appF l.length (encL enc d l) 1 g)) (.row ids e sz ep l'.length (encL enc d l')) := by
 subst h; exact ⟨⟨rfl, rfl, rfl⟩, rfl, by rw [List.length_append]; rfl, qrz hg⟩
theorem joh {α : Type} (enc : α → List AV) (d : α) {l l' : List α} {x y : α} (h : l ++ [x, y] = l') {ids : List Nat} {e : TypeId} {sz ep : Nat} {g g' : Nat → List AV} (hg : g 0 = enc x) (hg' : g' 0 = enc y) : SoLe (.row ids e sz ep (l.length + 1 + 1) (appF (l.length + 1) (appF l.length (encL enc d l) 1 g) 1 g')) (.row ids e sz ep l'.length (encL enc d l')) := by
 have h2 : l ++ [x] ++ [y] = l' := by rw [← h]; simp
 subst h2
 refine ⟨⟨rfl, rfl, rfl⟩, rfl, by rw [List.length_append, List.length_append]; rfl, fun j hj => ?_⟩
 have hlen : (l ++ [x]).length = l.length + 1 := by rw [List.length_append]; rfl
 by_cases hl : j < l.length + 1
 ·have h1 := qrz (d := d) (L := l) hg j hl
  have e1 : appF (l.length + 1) (appF l.length (encL enc d l) 1 g) 1 g' j = appF l.length (encL enc d l) 1 g j := if_pos hl
  have e2 : encL enc d (l ++ [x] ++ [y]) j = encL enc d (l ++ [x]) j := by unfold encL; rw [qio, if_pos (by omega)]
  rw [e1, e2]; exact h1
 ·obtain rfl : j = l.length + 1 := by omega
  have e1 : appF (l.length + 1) (appF l.length (encL enc d l) 1 g) 1 g' (l.length + 1) = g' 0 := by unfold appF; rw [if_neg (by omega), if_pos (by omega), Nat.sub_self]
  have e2 : encL enc d (l ++ [x] ++ [y]) (l.length + 1) = enc y := by unfold encL; rw [qio, if_neg (by omega), if_pos hlen.symm]
  rw [e1, e2, hg']; exact LeL.refl _
theorem joi {α : Type} {l l' : List α} {x y : α} (h : l ++ [x, y] = l') (r : Nat) : Le (.own r 0 0 (l.length + 1 + 1)) (.own r 0 0 l'.length) := by
 subst h; exact Le.of_eq (by rw [List.length_append]; rfl)
theorem qus {α : Type} {l l' : List α} {x : α} (h : l ++ [x] = l') (r : Nat) : Le (.own r 0 0 (l.length + 1)) (.own r 0 0 l'.length) := by
 subst h; exact Le.of_eq (by rw [List.length_append]; rfl)
theorem qqa {α : Type} {l l' : List α} (h : l = l') (r : Nat) : Le (.own r 0 0 l.length) (.own r 0 0 l'.length) := by
 subst h; exact Le.refl _
theorem jcg (m : Md) (hM : ModOk m) (s : Stt) (hf : qq m s = true) : Con Try.prog 47 [m.av, s.av] (jng (qhv m s)) := by
 have hs := qbu hM hf
 have hft := qcz m s hs
 rw [hf] at hft
 have h0 := ((qaf m s).1 hf).1
 have hz := hM.sz
 have hpl := jcf m hM s
 have hcl := h0.2.2.1
 have hpz := hM.psz
 refine zK {owns := [(5, (56, 4))]} 300 Try.func47 (fun c0 rdb => ?_)
 (repeat' ((conv => whnf); first | refine zC 300 (hft) ?_ | (apply zB <;> intro hb <;> (try simp [-zd] at hb) <;> try (exfalso; omega))))
 ((conv => whnf); refine qx (fun _ => rfl) 300 1 (fun i : Nat => [(18, iv i), (5, .own 2 0 0 (jn m s i).length)]) (fun i => [(2, .row [] 56 4 0 (jn m s i).length (encL Mv.cells {} (jn m s i)))]) (fun i => i ≤ m.procs.length) (fun i => m.procs.length - i) (0) (Nat.zero_le _) qa ⟨qcr (fun k hk => absurd hk (Nat.not_lt_zero k)), trivial⟩ (fun _ => rfl) (by kernel_rfl) ?_; (conv => whnf))
 intro i hi
 have hpi := hpl i hi
 (repeat' ((conv => whnf); first | refine Ob.auto ?_ | (apply zB <;> intro hb <;> (try simp [-zd] at hb) <;> try (exfalso; omega))))
 ·have hp1 : jn m s (i + 1) = jn m s i := by rw [quq, if_pos hb, List.append_nil]
  ((conv => whnf); refine ⟨i + 1, by omega, ⟨⟨Le.refl _, Le.of_eq (congrArg (fun l => AV.own 2 0 0 (List.length l)) hp1.symm), trivial⟩, ⟨qks Mv.cells {} hp1.symm, trivial⟩⟩, ⟨qa, qa⟩, ?_⟩; (first | omega | (dsimp only; omega) | skip))
 ·have hp1 : jn m s (i + 1) = jn m s i ++ qkq m s i := by rw [quq, if_neg (fun h => h.2 (hb h.1))]
  have hil : i < m.procs.length := by assumption
  have hpe := (hpz _ (qo m.procs i pr0 hil)).1
  have hel : (qp m i).length ≤ 40000 := hpe
  have he0 : jn m s i ++ qdl m s i 0 = jn m s i := List.append_nil _
  ((conv => whnf); refine qhf (fun _ => rfl) 300 2 [2, 3, 4, 6, 18, 33, 34, 16, 17] [0, 1, 3] (fun j : Nat => [(35, iv j), (5, .own 2 0 0 (jn m s i ++ qdl m s i j).length)]) (fun j => [(2, .row [] 56 4 0 (jn m s i ++ qdl m s i j).length (encL Mv.cells {} (jn m s i ++ qdl m s i j)))]) (fun j => j ≤ (qp m i).length) (fun j => (qp m i).length - j) (0) (Nat.zero_le _) ⟨Le.refl _, Le.of_eq (congrArg (fun l => AV.own 2 0 0 (List.length l)) he0.symm), trivial⟩ ⟨qks Mv.cells {} he0.symm, trivial⟩ (fun _ => rfl) (by kernel_rfl) ?_; (conv => whnf))
  intro j hj
  have hen := jce m s i j
  have hsum : (jn m s i ++ qdl m s i j).length ≤ 200000 := by rw [List.length_append]; omega
  generalize hL : jn m s i ++ qdl m s i j = L at hsum ⊢
  (repeat' ((conv => whnf); first | refine Ob.auto ?_ | refine zC 300 (quf m hM.ok s hf hs i hil ((qp m i).getD j ed0) (edOk hM hil (by exact hb))) ?_ | (apply zB <;> intro hb <;> (try simp [-zd] at hb) <;> try (exfalso; omega))))
  ·have hjl : j < (qp m i).length := by assumption
   have hE : L ++ [⟨0, i, j, 0⟩] = jn m s i ++ qdl m s i (j + 1) := by rw [jcc, if_pos hb, ← List.append_assoc, hL]
   ((conv => whnf); refine ⟨j + 1, hjl, ⟨⟨Le.refl _, qus hE 2, trivial⟩, ⟨qur Mv.cells {} hE rfl, trivial⟩⟩, ⟨qa, qa⟩, ?_⟩; (first | omega | (dsimp only; omega) | skip))
  ·have hjl : j < (qp m i).length := by assumption
   have hE : L = jn m s i ++ qdl m s i (j + 1) := by rw [jcc, if_neg (by rw [hb]; decide), List.append_nil, hL]
   ((conv => whnf); refine ⟨j + 1, hjl, ⟨⟨Le.refl _, qqa hE 2, trivial⟩, ⟨qks Mv.cells {} hE, trivial⟩⟩, ⟨qa, qa⟩, ?_⟩; (first | omega | (dsimp only; omega) | skip))
  ·have hjl : (qp m i).length ≤ j := by assumption
   obtain rfl : j = (qp m i).length := by omega
   rw [jof, ← hp1] at hL
   ((conv => whnf); refine ⟨i + 1, hil, ⟨⟨Le.refl _, qqa hL.symm 2, trivial⟩, ⟨qks Mv.cells {} hL.symm, trivial⟩⟩, ⟨qa, qa⟩, ?_⟩; (first | omega | (dsimp only; omega) | skip))
 ·have hmv : qhv m s = jn m s i := by
   obtain rfl : i = m.procs.length := by omega
   unfold qhv
   rw [if_neg (by assumption), List.append_nil]; rfl
  rw [hmv]
  exact Le.refl _
 ·obtain rfl : i = m.procs.length := by omega
  have hmv : qhv m s = jn m s m.procs.length ++ qco m s m.chans.length := by
   unfold qhv
   rw [if_pos (by assumption)]; rfl
  have he0 : jn m s m.procs.length ++ qco m s 0 = jn m s m.procs.length := List.append_nil _
  ((conv => whnf); refine qx (fun _ => rfl) 300 2 (fun c : Nat => [(60, iv c), (5, .own 2 0 0 (jn m s m.procs.length ++ qco m s c).length)]) (fun c => [(2, .row [] 56 4 0 (jn m s m.procs.length ++ qco m s c).length (encL Mv.cells {} (jn m s m.procs.length ++ qco m s c)))]) (fun c => c ≤ m.chans.length) (fun c => m.chans.length - c) (0) (Nat.zero_le _) ⟨Le.refl _, qqa he0.symm 2, trivial⟩ ⟨qks Mv.cells {} he0.symm, trivial⟩ (fun _ => rfl) (by kernel_rfl) ?_; (conv => whnf))
  intro c hc
  have hcn := jcd m s c
  have hsum : (jn m s m.procs.length ++ qco m s c).length ≤ 200000 := by rw [List.length_append]; omega
  generalize hL : jn m s m.procs.length ++ qco m s c = L at hsum ⊢
  (repeat' ((conv => whnf); first | refine Ob.auto ?_ | refine zC 300 (jbq m hM.ok s hcl c (by omega)) ?_ | refine zC 300 (jbr m hM.ok s hcl c (by omega)) ?_ | (apply zB <;> intro hb <;> (try simp [-zd] at hb) <;> try (exfalso; omega))))
  ·have hE : L ++ [⟨1, 0, 0, c⟩, ⟨2, 0, 0, c⟩] = jn m s m.procs.length ++ qco m s (c + 1) := by rw [qnc, ← List.append_assoc, hL]; simp [qgu, *]
   ((conv => whnf); refine ⟨c + 1, by omega, ⟨⟨Le.refl _, joi hE 2, trivial⟩, ⟨joh Mv.cells {} hE rfl rfl, trivial⟩⟩, ⟨qa, qa⟩, ?_⟩; (first | omega | (dsimp only; omega) | skip))
  ·have hE : L ++ [⟨1, 0, 0, c⟩] = jn m s m.procs.length ++ qco m s (c + 1) := by rw [qnc, ← List.append_assoc, hL]; simp [qgu, *]
   ((conv => whnf); refine ⟨c + 1, by omega, ⟨⟨Le.refl _, qus hE 2, trivial⟩, ⟨qur Mv.cells {} hE rfl, trivial⟩⟩, ⟨qa, qa⟩, ?_⟩; (first | omega | (dsimp only; omega) | skip))
  ·have hE : L ++ [⟨2, 0, 0, c⟩] = jn m s m.procs.length ++ qco m s (c + 1) := by rw [qnc, ← List.append_assoc, hL]; simp [qgu, *]
   ((conv => whnf); refine ⟨c + 1, by omega, ⟨⟨Le.refl _, qus hE 2, trivial⟩, ⟨qur Mv.cells {} hE rfl, trivial⟩⟩, ⟨qa, qa⟩, ?_⟩; (first | omega | (dsimp only; omega) | skip))
  ·have hE : L = jn m s m.procs.length ++ qco m s (c + 1) := by rw [qnc, ← List.append_assoc, hL]; simp [qgu, *]
   ((conv => whnf); refine ⟨c + 1, by omega, ⟨⟨Le.refl _, qqa hE 2, trivial⟩, ⟨qks Mv.cells {} hE, trivial⟩⟩, ⟨qa, qa⟩, ?_⟩; (first | omega | (dsimp only; omega) | skip))
  ·obtain rfl : c = m.chans.length := by omega
   rw [hmv, hL]
   exact Le.refl _
theorem jch (m : Md) (hM : ModOk m) (s : Stt) (hs : SSz s) : Con Try.prog 45 [m.av, s.av] (.bool (qq m s && qpt m s)) := by
 have hft := qcz m s hs
 by_cases hf : qq m s = true
 ·have hmv := jcg m hM s hf
  have h0 := (qaf m s).1 hf
  have hz := hM.sz
  have hr := fun (q : Pr) hq => (hM.pr q hq).rl
  rw [hf] at hft
  rw [hf, Bool.true_and]
  unfold qpt
  generalize hL : qhv m s = L at hmv
  refine zK {} 300 Try.func45 (fun c0 rdb => ?_)
  (repeat' ((conv => whnf); first | refine Ob.auto ?_ | refine zC 300 (hft) ?_ | refine zG 300 (fun hg => hmv) ?_ | (apply zB <;> intro hb <;> (try simp [-zd] at hb) <;> try (exfalso; omega))))
  ·rw [show L.isEmpty = false from by cases L with | nil => simp at hb | cons a b => rfl]
   exact Le.refl _
  ·subst hb
   have hat := h0.1.1
   have hfa := h0.2.1
   ((conv => whnf); refine qx (fun _ => rfl) 300 1 (fun i : Nat => [(21, iv i), (4, .bool false)]) (fun _ => []) (fun i => i ≤ m.procs.length ∧ ∀ j, j < i → (m.procs.getD j pr0).rest.getD (s.at_.getD j 0).toNat false = true) (fun i => m.procs.length - i) (0) (⟨Nat.zero_le _, fun j hj => absurd hj (Nat.not_lt_zero j)⟩) qa qa (fun _ => rfl) (by kernel_rfl) ?_; (conv => whnf))
   intro i hi
   have hri : i < m.procs.length → 0 ≤ s.at_.getD i 0 ∧ s.at_.getD i 0 < ((m.procs.getD i pr0).rest.length : Int) := fun h => by
    have h1 := hfa i (by omega)
    have h2 := hr _ (qo m.procs i pr0 h)
    unfold qlz at h1
    omega
   (repeat' ((conv => whnf); first | refine zO ?_ | refine Ob.auto ?_ | refine zD 300 ?_ | (apply zB <;> intro hb <;> (try simp [-zd] at hb) <;> try (exfalso; omega))))
   ·rw [show qud m s = false from qyf (i := i) (by omega) (by assumption)]
    exact Le.refl _
   ·((conv => whnf); refine ⟨i + 1, ⟨by omega, qbo hi.2 (by assumption)⟩, ⟨qa, qa⟩, ⟨qa, qa⟩, ?_⟩; (first | omega | (dsimp only; omega) | skip))
   ·rw [show qud m s = true from qly fun j hj => hi.2 j (by omega)]
    exact Le.refl _
 ·rw [Bool.not_eq_true] at hf
  rw [hf] at hft
  rw [hf]
  refine zK {} 300 Try.func45 (fun c0 rdb => ?_)
  (repeat' ((conv => whnf); first | refine Ob.auto ?_ | refine zC 300 (hft) ?_ | refine zG 300 (fun hg => (absurd hg (by decide) : Con Try.prog 47 [m.av, s.av] (.slc 4 0 (fun _ => [])))) ?_ | (apply zB <;> intro hb <;> (try simp [-zd] at hb) <;> try (exfalso; omega))))
  exact Le.refl _
theorem joj (m : Md) (hM : ModOk m) (s : Stt) (hs : SSz s) : Con Try.prog 46 [m.av, s.av] (.bool (qq m s && badB m s)) := by
 have hft := qcz m s hs
 have hsf := jns m hM.ok s hs
 have hdd := jch m hM s hs
 by_cases hf : qq m s = true
 ·rw [hf] at hft hsf hdd
  rw [hf, Bool.true_and]
  have e : (m.safe.isEmpty || (true && qlx m s)) = qlx m s := by
   rw [Bool.true_and]
   unfold qlx
   cases m.safe with
   | nil => rfl
   | cons a b => rfl
  rw [e] at hsf
  rw [Bool.true_and] at hdd
  unfold badB
  refine zK {} 300 Try.func46 (fun c0 rdb => ?_)
  (repeat' ((conv => whnf); first | refine Ob.auto ?_ | refine zC 300 (hft) ?_ | refine zC 300 (hsf) ?_ | refine zG 300 (fun hg => hdd) ?_ | (apply zB <;> intro hb <;> (try simp [-zd] at hb) <;> try (exfalso; omega))))
  exact Le.refl _
 ·rw [Bool.not_eq_true] at hf
  rw [hf] at hft
  rw [hf]
  refine zK {} 300 Try.func46 (fun c0 rdb => ?_)
  (repeat' ((conv => whnf); first | refine Ob.auto ?_ | refine zC 300 (hft) ?_ | (apply zB <;> intro hb <;> (try simp [-zd] at hb) <;> try (exfalso; omega))))
  exact Le.refl _
end Go.Proofs.Ytdoaagphhjggbaa
end
section
namespace Go.Proofs.Ytdoaagphhjggbaa
open Go Go.Sx Go.RowKit Go.St
set_option maxRecDepth 100000
set_option maxHeartbeats 2000000
def st15 : Stt := qpw model15 (qdh model15) {}
theorem do_15 : doB model15 (qdh model15) {} = true := by decide +kernel
theorem jok : qq model15 (qdh model15) = true := by decide +kernel
theorem jci : qq model15 st15 = true := by decide +kernel
theorem jol : qjf model15 st15 0 1 = false := by decide +kernel
theorem jom : (qq model15 st15 && qpt model15 st15) = true := by decide +kernel
theorem jon : (qq model15 st15 && badB model15 st15) = false := by decide +kernel
theorem joo : qhv model15 st15 = [] := by decide +kernel
theorem jop : Con Try.prog 22 [] (.bool true) := by
 have hm := jnc
 have s0 := qbu hm jok
 have s1 := qbu hm jci
 have h1 := jnf model15 hm.ok
 have h2 := jcb model15 hm (qdh model15) s0 {}
 rw [do_15] at h2
 have h3 := qug model15 hm.ok st15 s1 (fun q hq => (hm.pr q hq).ed) 0 1
 rw [jol] at h3
 have h4 := jch model15 hm st15 s1
 rw [jom] at h4
 have h5 := joj model15 hm st15 s1
 rw [jon] at h5
 have h6 := jcg model15 hm st15 jci
 rw [joo] at h6
 refine zK {} 300 Try.func22 (fun c0 rdb => ?_)
 (repeat' ((conv => whnf); first | refine zO ?_ | refine Ob.auto ?_ | refine zC 300 (jna) ?_ | refine zC 300 (jnb) ?_ | refine zX (h1) ?_ | refine zX (h2) ?_ | refine zG 300 (fun hg => h3) ?_ | refine zG 300 (fun hg => h4) ?_ | refine zG 300 (fun hg => h5) ?_ | refine zG 300 (fun hg => h6) ?_ | (refine zR 300 ?_) | fail))
 exact Le.refl _
end Go.Proofs.Ytdoaagphhjggbaa
end
section
namespace Go.Proofs.Ytdoaagphhjggbaa
open Go Go.Sx Go.RowKit Go.St Pa
set_option maxRecDepth 100000
set_option maxHeartbeats 4000000
def qnd (k : Nat) : List UInt8 := [99, 104, 97, 110, 32, 99, 91, UInt8.ofNat (48 + k), 93, 32, 111, 102, 32, 56, 59, 32, 118, 97, 114, 32, 120, 32, 111, 102, 32, 56, 59, 32, 118, 97, 114, 32, 121, 32, 111, 102, 32, 56, 59, 32, 112, 114, 111, 99, 32, 112, 32, 123, 32, 119, 104, 105, 108, 101, 32, 49, 32, 123, 32, 115, 101, 110, 100, 32, 99, 32, 120, 59, 32, 125, 32, 125, 32, 112, 114, 111, 99, 32, 113, 32, 123, 32, 119, 104, 105, 108, 101, 32, 49, 32, 123, 32, 114, 101, 99, 118, 32, 99, 32, 121, 59, 32, 125, 32, 125]
def qfa (k : Nat) : List Nd := [⟨0, [], [], [1, 2, 3, 4, 10], 0⟩, ⟨1, [[99]], [k, 8, 0, 0], [], 0⟩, ⟨2, [[120]], [8, 0], [], 16⟩, ⟨2, [[121]], [8, 0], [], 28⟩, ⟨3, [[112]], [1], [5], 40⟩, ⟨12, [], [], [6, 7], 49⟩, ⟨17, [], [1], [], 55⟩, ⟨16, [], [], [8], 57⟩, ⟨7, [[99]], [], [9], 59⟩, ⟨18, [[120]], [], [], 66⟩, ⟨3, [[113]], [1], [11], 73⟩, ⟨12, [], [], [12, 13], 82⟩, ⟨17, [], [1], [], 88⟩, ⟨16, [], [], [14], 90⟩, ⟨8, [[99], [121]], [0], [], 92⟩]
def qbc (k : Nat) : Md := { tree := qfa k, globals := 2, chans := [⟨[99], k, 8, false, false⟩], vars := [⟨[120], 8, 0⟩, ⟨[121], 8, 0⟩], procs := [⟨[112], 0, [], 3, [false, true, false], [⟨0, 2, 4, 6, (-1), (-1), false, 5⟩, ⟨0, 1, 5, 6, (-1), (-1), false, 5⟩, ⟨2, 0, 2, 9, (-1), 0, false, 8⟩], [[120], [121]], [0, 1]⟩, ⟨[113], 0, [], 3, [false, true, false], [⟨0, 2, 4, 12, (-1), (-1), false, 11⟩, ⟨0, 1, 5, 12, (-1), (-1), false, 11⟩, ⟨2, 0, 3, (-1), 1, 0, false, 14⟩], [[120], [121]], [0, 1]⟩], safe := [], dead := false }
theorem joq : ((List.range 3).map fun k => qmu (qnd (k + 1))) = ((List.range 3).map fun k => (qfa (k + 1), ((0 : Int), (0 : Int)))) := by kernel_rfl
theorem jor : ((List.range 3).all fun k => qko (qfa (k + 1)) && decide ((qds (qfa (k + 1))).1 = 0)) = true := by decide +kernel
theorem jcj (k : Nat) : qja (qfa k) = qbc k := by kernel_rfl
theorem jos {α : Type} {f g : Nat → α} {m : Nat} (h : (List.range m).map f = (List.range m).map g) {i : Nat} (hi : i < m) : f i = g i := by
 have := congrArg (fun l => l[i]?) h
 simp only [List.getElem?_map, List.getElem?_range hi, Option.map_some, Option.some.injEq] at this
 exact this
section
variable {k : Nat} (hk : k < 3)
include hk
theorem pxQ : qmu (qnd (k + 1)) = (qfa (k + 1), (0, 0)) := jos joq hk
theorem okQ : qko (qfa (k + 1)) = true ∧ (qds (qfa (k + 1))).1 = 0 := by
 have h := qkf jor hk
 rw [Bool.and_eq_true] at h
 exact ⟨h.1, of_decide_eq_true h.2⟩
theorem jot : Con Try.prog 15 [.str (qnd (k + 1))] (.tup [qat (qfa (k + 1)), flt 0 0]) := by
 have h := jab (qnd (k + 1)) (by show 105 ≤ _; decide)
 rw [jac (pxQ hk) (by show 105 ≤ _; decide)] at h
 exact h
theorem makeQ : Con Try.prog 16 [qat (qfa (k + 1))] (.tup [(qbc (k + 1)).av, .bool true]) := by
 have h := jbj (qfa (k + 1)) (qth (okQ hk).1) (okQ hk).2
 rw [jcj] at h
 exact h
theorem qqb : ModOk (qbc (k + 1)) := jcj (k + 1) ▸ jbg (qth (okQ hk).1) (okQ hk).2
end
end Go.Proofs.Ytdoaagphhjggbaa
end
