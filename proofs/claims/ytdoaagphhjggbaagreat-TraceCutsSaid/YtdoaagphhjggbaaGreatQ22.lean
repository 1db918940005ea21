/- Some texts of the library, one behind the other. -/
import Derived.Test.YtdoaagphhjggbaaGreatQ21
import Derived.Test.YtdoaagphhjggbaaGreatQ2
section
namespace Go.Proofs.YtdoaagphhjggbaaGreat
open List renaming getD_eq_getElem?_getD → zd
open Go Go.Sx Go.RowKit Go.St
set_option maxRecDepth 100000
set_option maxHeartbeats 4000000
theorem jpd {α : Type} {q : α → Bool} {L : List α} (d : α) {i : Nat} (hi : i < L.length) (h : q (L.getD i d) = true) : L.any q = true := List.any_eq_true.2 ⟨_, qk L i d hi, h⟩
theorem jpe {α : Type} {q : α → Bool} {L : List α} (d : α) (h : ∀ j, j < L.length → q (L.getD j d) = false) : L.any q = false := by
 rw [Bool.eq_false_iff]
 intro h'
 obtain ⟨x, hx, he⟩ := List.any_eq_true.1 h'
 obtain ⟨j, hj, rfl⟩ := List.mem_iff_getElem.1 hx
 have := h j hj
 rw [zd, List.getElem?_eq_getElem hj] at this
 simp only [Option.getD_some] at this
 rw [this] at he; cases he
theorem jpf {q : Nat → Bool} {n i : Nat} (hi : i < n) (h : q i = true) : (List.range n).any q = true := List.any_eq_true.2 ⟨i, List.mem_range.2 hi, h⟩
theorem jpg {q : Nat → Bool} {n : Nat} (h : ∀ j, j < n → q j = false) : (List.range n).any q = false := by
 rw [Bool.eq_false_iff]
 intro h'
 obtain ⟨x, hx, he⟩ := List.any_eq_true.1 h'
 rw [h x (List.mem_range.1 hx)] at he; cases he
theorem jcd {l : List Nd} (ht : Tree l) (a : Int) (h0 : 0 ≤ a) (h1 : a < l.length) : 0 ≤ itemF l a ∧ itemF l a < l.length := by
 have hlen := ht.len
 by_cases h : a = 0
 ·subst h
  have : itemF l 0 = 0 := by
   unfold itemF
   exact qqv 0 _ 0 fun k hk => (ht.kids 0 (by omega) k hk).1
  omega
 ·have h2 := ht.item (j := a.toNat) (by omega) (by omega)
  rw [show ((a.toNat : Nat) : Int) = a by omega] at h2
  have := ht.kids 0 (by omega) _ h2.1.1
  omega
theorem jph (l : List Nd) (ht : Tree l) (i : Nat) (h1 : i < l.length) : Con Tryz.prog 144 [jp l, iv i] (iv (qfr l i)) := by
 have hlen := ht.len
 have hk0 := (ht.kidsLen (j := 0) (by omega)).1
 have hit := jcd ht i (by omega) (by omega)
 have hln := (ht.lens (itemF l i).toNat (by omega)).n1
 refine zK {} 300 Tryz.func144 (fun c0 rdb => ?_)
 (repeat' ((conv => whnf); first | refine Ob.auto ?_ | refine zC 300 (qqz l (by omega) (by omega) _) ?_ | (apply zB <;> intro hb <;> (try simp [-zd] at hb) <;> try (exfalso; omega))))
 ·refine Le.of_eq (congrArg (AV.int _) ?_)
  rw [qfr, if_pos (by unfold qp; exact hb)]; rfl
 ·refine Le.of_eq (congrArg (AV.int _) ?_)
  rw [qfr, if_neg (by unfold qp; exact hb)]
theorem qvc (l : List Nd) (kind : Int) (i : Nat) : sumF l kind (i + 1) = qhs l kind (sumF l kind i) i := by
 unfold sumF
 rw [List.range_succ, List.foldl_append]; rfl
theorem jce {l : List Nd} (ht : Tree l) (i : Nat) (h1 : i < l.length) : 0 ≤ qfr l i := by
 have hit := jcd ht i (by omega) (by omega)
 have hln := (ht.lens (itemF l i).toNat (by omega)).num
 unfold qfr qp
 split
 ·exact (hln (by omega)).1
 ·omega
theorem jcf {l : List Nd} (ht : Tree l) (kind : Int) : ∀ i, i ≤ l.length → 0 ≤ sumF l kind i ∧ sumF l kind i ≤ 200
 | 0, _ => by simp [sumF]
 | i + 1, h => by
  have h1 := jcf ht kind i (by omega)
  have h2 := jce ht i (by omega)
  rw [qvc]
  unfold qhs
  (repeat' split) <;> omega
theorem jcg (l : List Nd) (kind : Int) (i : Nat) (h : 100 ≤ sumF l kind i) : ∀ k, sumF l kind (i + k) = sumF l kind i
 | 0 => rfl
 | k + 1 => by
  have ih := jcg l kind i h k
  rw [show i + (k + 1) = i + k + 1 by omega, qvc, ih]
  unfold qhs
  rw [if_neg (by omega)]
theorem qvd (l : List Nd) (ht : Tree l) (a : Nat) (h1 : a < l.length) (kind : Int) : Con Tryz.prog 129 [jp l, iv a, iv kind] (iv (sumF l kind (a + 1))) := by
 have hlen := ht.len
 refine zK {} 300 Tryz.func129 (fun c0 rdb => ?_)
 ((conv => whnf); refine qo (fun _ => rfl) 300 1 (fun g : Nat × Int => [(8, iv g.1), (7, iv g.2)]) (fun _ => []) (fun g => g.1 ≤ a + 1 ∧ g.2 = sumF l kind g.1) (fun g => a + 1 - g.1) ((0, 0)) (⟨by simp, rfl⟩) qa qa (fun _ => rfl) (by kernel_rfl) ?_; (conv => whnf))
 rintro ⟨i, n⟩ ⟨hi, hn⟩
 simp only at hi hn
 have hsb := jcf ht kind i (by omega)
 have hsu := qvc l kind i
 have hcg : i < l.length → _ := fun h => jce ht i h
 rw [← hn] at hsu hsb
 unfold qhs at hsu
 (repeat' ((conv => whnf); first | refine Ob.auto ?_ | (refine Ob.intro (by (first | exact ⟨by omega, by omega⟩ | exact qdr (by have := hcg (by omega); simp only [cond_true, cond_false, Bool.cond_decide]; omega) (by have := hcg (by omega); simp only [cond_true, cond_false, Bool.cond_decide]; omega))) ?_) | refine zC 300 (jph l ht i (by omega)) ?_ | (apply zB <;> intro hb <;> (try simp [-zd] at hb) <;> try (exfalso; omega))))
 ·((conv => whnf); refine ⟨(i + 1, n), ⟨by simp only; omega, by rw [hsu, if_pos (by omega), if_neg (by assumption)]⟩, ⟨qa, qa⟩, ⟨qa, qa⟩, ?_⟩; (first | omega | (dsimp only; omega) | skip))
 ·((conv => whnf); refine ⟨(i + 1, n + 1), ⟨by simp only; omega, by rw [hsu, if_pos (by omega), if_pos (by assumption), if_pos (by assumption)]⟩, ⟨qa, qa⟩, ⟨qa, qa⟩, ?_⟩; (first | omega | (dsimp only; omega) | skip))
 ·((conv => whnf); refine ⟨(i + 1, n + min (qfr l i) 100), ⟨by simp only; omega, by rw [hsu, if_pos (by omega), if_pos (by assumption), if_neg (by assumption)]⟩, ⟨qa, qa⟩, ⟨qa, qa⟩, ?_⟩; (first | omega | (dsimp only; omega) | skip))
 ·refine Le.of_eq (congrArg (AV.int _) ?_)
  by_cases hia : i ≤ a
  ·have := jcg l kind i (by omega) (a + 1 - i)
   rw [show i + (a + 1 - i) = a + 1 by omega] at this
   rw [this, hn]
  ·rw [show a + 1 = i by omega, hn]
theorem jpi (l : List Nd) (ht : Tree l) (a : Int) : ∀ (f : Nat) (b : Int), 0 ≤ b → b < l.length → l.length - b.toNat ≤ f → Con Tryz.prog 130 [jp l, iv a, iv b] (.bool (qnx l a f b)) := by
 intro f
 induction f with
 | zero => intro b h0 h1 h2; omega
 | succ f ih =>
  intro b h0 h1 h2
  have hkl := (ht.kidsLen (j := b.toNat) (by omega)).1
  have hk := ht.kids b.toNat (by omega)
  have hkg : ∀ i, i < (l.getD b.toNat nd0).kids.length → b < (l.getD b.toNat nd0).kids.getD i 0 ∧ (l.getD b.toNat nd0).kids.getD i 0 < l.length := fun i hi => by have := hk _ (qk _ i 0 hi); omega
  refine zK {} 300 Tryz.func130 (fun c0 rdb => ?_)
  ((conv => whnf); refine qo (fun _ => rfl) 300 1 (fun i : Nat => [(7, iv i)]) (fun _ => []) (fun i => i ≤ (l.getD b.toNat nd0).kids.length ∧ ∀ j, j < i → ((l.getD b.toNat nd0).kids.getD j 0 == a || qnx l a f ((l.getD b.toNat nd0).kids.getD j 0)) = false) (fun i => (l.getD b.toNat nd0).kids.length - i) (0) (⟨by omega, fun j hj => absurd hj (Nat.not_lt_zero j)⟩) qa qa (fun _ => rfl) (by kernel_rfl) ?_; (conv => whnf))
  intro i hi
  have hki : i < (l.getD b.toNat nd0).kids.length → _ := hkg i
  (repeat' ((conv => whnf); first | refine Ob.auto ?_ | refine zG 300 (fun hg => ih ((l.getD b.toNat nd0).kids.getD i 0) (by omega) (by omega) (by omega)) ?_ | (apply zB <;> intro hb <;> (try simp [-zd] at hb) <;> try (exfalso; omega))))
  ·refine Le.of_eq (congrArg AV.bool ?_)
   exact (jpd 0 (i := i) (by omega) (by rw [Bool.or_eq_true, beq_iff_eq]; exact hb)).symm
  ·((conv => whnf); refine ⟨i + 1, ⟨by omega, jx hi.2 (by rw [Bool.or_eq_false_iff, beq_eq_false_iff_ne]; exact hb)⟩, ⟨qa, qa⟩, ⟨qa, qa⟩, ?_⟩; (first | omega | (dsimp only; omega) | skip))
  ·refine Le.of_eq (congrArg AV.bool ?_)
   exact (jpe 0 (fun j hj => hi.2 j (by omega))).symm
theorem jpj (l : List Nd) (ht : Tree l) (i : Nat) (h1 : i < l.length) : Con Tryz.prog 98 [jp l, iv i] (iv (qbe l i)) := by
  have hlen := ht.len
  have hln := ht.lens i h1
  have hn4 := hln.n4
  have hn2 := hln.n2
  have hn1 := hln.n1
  refine zK {} 600 Tryz.func98 (fun c0 rdb => ?_)
  (repeat' ((conv => whnf); first | refine zO ?_ | refine Ob.auto ?_ | refine zG 600 (fun hg => qvd l ht i h1 1) ?_ | refine zY (fun hg => qvd l ht i h1 2) ?_ | refine zG 600 (fun hg => qvd l ht i h1 3) ?_ | refine zY (fun hg => qit _ _) ?_ | (refine zP 600 ?_) | (apply zB <;> intro hb <;> (try simp [-zd] at hb) <;> try (exfalso; omega))))
  all_goals first
    | (refine Le.of_eq (congrArg iv ?_)
       rw [qbe]
       ((repeat (first | rw [if_pos (by omega)] | rw [if_neg (by omega)])) <;> rfl))
    | skip
  ((conv => whnf); refine qo (fun _ => rfl) 600 1 (fun j : Nat => [(7, iv j)]) (fun _ => []) (fun j => j ≤ i ∧ ∀ k, k < j → ((l.getD k nd0).kind == 13 && qnx l i l.length k) = false) (fun j => i - j) (0) (⟨by omega, fun j hj => absurd hj (Nat.not_lt_zero j)⟩) qa qa (fun _ => rfl) (by kernel_rfl) ?_; (conv => whnf))
  intro j hj
  (repeat' ((conv => whnf); first | refine Ob.auto ?_ | refine zG 600 (fun hg => jpi l ht i l.length j (by omega) (by omega) (by omega)) ?_ | (apply zB <;> intro hb <;> (try simp [-zd] at hb) <;> try (exfalso; omega))))
  · refine Le.of_eq (congrArg iv ?_)
    rw [qbe, if_neg (by omega), if_neg (by omega), if_neg (by omega), if_pos (by assumption), if_pos (jpf (i := j) (by omega) (by rw [Bool.and_eq_true, beq_iff_eq]; exact hb))]
  · ((conv => whnf); refine ⟨j + 1, ⟨by omega, jx hj.2 (by rw [Bool.and_eq_false_imp, beq_iff_eq]; exact hb)⟩, ⟨qa, qa⟩, ⟨qa, qa⟩, ?_⟩; (first | omega | (dsimp only; omega) | skip))
  all_goals
    refine Le.of_eq (congrArg iv ?_)
    rw [qbe, if_neg (by omega), if_neg (by omega), if_neg (by omega), if_pos (by assumption), if_neg (by rw [jpg (fun k hk => hj.2 k (by omega))]; decide)]
    done
theorem jch (l : List Nd) (ht : Tree l) : Con Tryz.prog 68 [jp l] (flt (qbu l).1 (qbu l).2) := by
 have hlen := ht.len
 refine zK {} 300 Tryz.func68 (fun c0 rdb => ?_)
 (repeat' ((conv => whnf); first | refine Ob.auto ?_ | refine zC 300 (joz l ht) ?_ | (apply zB <;> intro hb <;> (try simp [-zd] at hb) <;> try (exfalso; omega))))
 ·refine Le.of_eq ?_
  rw [qbu, if_pos (by omega)]; rfl
 ·((conv => whnf); refine qo (fun _ => rfl) 300 1 (fun i : Nat => [(4, iv i)]) (fun _ => []) (fun i => i ≤ l.length ∧ ∀ j, j < i → (qbe l j != 0) = false) (fun i => l.length - i) (0) (⟨by omega, fun j hj => absurd hj (Nat.not_lt_zero j)⟩) qa qa (fun _ => rfl) (by kernel_rfl) ?_; (conv => whnf))
  intro i hi
  have hr : ∀ j, j < (List.range l.length).length → j < l.length := fun j hj => by simpa using hj
  (repeat' ((conv => whnf); first | refine Ob.auto ?_ | refine zC 300 (jpj l ht i (by omega)) ?_ | (apply zB <;> intro hb <;> (try simp [-zd] at hb) <;> try (exfalso; omega))))
  ·rename_i h0 h1
   have h1' : i < l.length := by omega
   have := qeq (fun i => qbe l i != 0) (List.range l.length) 0 i (by simpa using h1') (by rw [qhk _ _ _ (by omega)]; simpa using hb) (fun j hj => by rw [qhk _ _ _ (by omega)]; exact hi.2 j hj)
   refine Le.of_eq ?_
   rw [qbu, if_neg (by omega), this, if_neg (by omega)]; rfl
  ·((conv => whnf); refine ⟨i + 1, ⟨by omega, jx hi.2 (by simpa using hb)⟩, ⟨qa, qa⟩, ⟨qa, qa⟩, ?_⟩; (first | omega | (dsimp only; omega) | skip))
  ·have := qer (fun i => qbe l i != 0) (List.range l.length) 0 (fun j hj => by have hj' := hr j hj; rw [qhk _ _ _ hj']; exact hi.2 j (by omega))
   refine Le.of_eq ?_
   rw [qbu, if_neg (by omega), this, if_pos (by omega)]; rfl
def prV (p : Pr) : AV := .agg p.cells
def prO (k : Nat) (p : Pr) : AV := .agg [.str p.name, iv p.copy, ints p.locals, iv p.places, qle p.rest, .own k 0 0 p.edges.length, strs p.names, ints p.vars]
abbrev edSO (p : Pr) : SO := .row [] 47 8 0 p.edges.length (encL Ed.cells ed0 p.edges)
abbrev qhu (f : FuncId) (args : List AV) (st0 : List SO) (p : Pr) : Prop := Trip Tryz.prog f args st0 (prO st0.length p) (Go.Sx.idx 0 (st0 ++ [edSO p])) (st0.length + 1)
abbrev vrSO (n : Nat) (f : Nat → List AV) : SO := .row [] 80 3 0 n f
abbrev pcSO (n : Nat) (f : Nat → List AV) : SO := .row [] 44 8 0 n f
theorem jci (L : List (List UInt8)) (hL : L.length ≤ 1000000) (s : List UInt8) : Con Tryz.prog 131 [strs L, .str s] (iv (qcc L s)) := by
 refine zK {} 300 Tryz.func131 (fun c0 rdb => ?_)
 ((conv => whnf); refine qo (fun _ => rfl) 300 1 (fun i : Nat => [(5, iv i)]) (fun _ => []) (fun i => i ≤ L.length ∧ ∀ j, j < i → (L.getD j [] == s) = false) (fun i => L.length - i) (0) (⟨by omega, fun j hj => absurd hj (Nat.not_lt_zero j)⟩) qa qa (fun _ => rfl) (by kernel_rfl) ?_; (conv => whnf))
 intro i hi
 (repeat' ((conv => whnf); first | refine Ob.auto ?_ | (apply zB <;> intro hb <;> (try simp [-zd] at hb) <;> try (exfalso; omega))))
 ·refine Le.of_eq (congrArg (AV.int _) ?_)
  rw [qcc, qeq (· == s) L [] i (by omega) (beq_iff_eq.2 hb) hi.2, if_neg (by omega)]
 ·((conv => whnf); refine ⟨i + 1, ⟨by omega, jx hi.2 (beq_eq_false_iff_ne.2 hb)⟩, ⟨qa, qa⟩, ⟨qa, qa⟩, ?_⟩; (first | omega | (dsimp only; omega) | skip))
 ·refine Le.of_eq (congrArg (AV.int _) ?_)
  rw [qcc, qer (· == s) L [] (fun j hj => hi.2 j (by omega)), if_pos (by omega)]
def mdR (m : Md) (nv : Nat) (fv : Nat → List AV) (np : Nat) (fp : Nat → List AV) : AV := .agg [jp m.tree, iv m.globals, slcL Ch.cells ch0 5 m.chans, .slc 3 nv fv, .slc 8 np fp, ints m.safe, .bool m.dead]
theorem jcj (m : Md) (nv : Nat) (fv : Nat → List AV) (np : Nat) (fp : Nat → List AV) (hL : m.chans.length ≤ 1000000) (s : List UInt8) : Con Tryz.prog 132 [mdR m nv fv np fp, .str s] (iv (qew m.chans s)) := by
 refine zK {} 300 Tryz.func132 (fun c0 rdb => ?_)
 ((conv => whnf); refine qo (fun _ => rfl) 300 1 (fun i : Nat => [(5, iv i)]) (fun _ => []) (fun i => i ≤ m.chans.length ∧ ∀ j, j < i → ((m.chans.getD j ch0).name == s) = false) (fun i => m.chans.length - i) (0) (⟨by omega, fun j hj => absurd hj (Nat.not_lt_zero j)⟩) qa qa (fun _ => rfl) (by kernel_rfl) ?_; (conv => whnf))
 intro i hi
 (repeat' ((conv => whnf); first | refine Ob.auto ?_ | (apply zB <;> intro hb <;> (try simp [-zd] at hb) <;> try (exfalso; omega))))
 ·refine Le.of_eq (congrArg (AV.int _) ?_)
  rw [qew, qeq (fun c : Ch => c.name == s) m.chans ch0 i (by omega) (beq_iff_eq.2 hb) hi.2, if_neg (by omega)]
 ·((conv => whnf); refine ⟨i + 1, ⟨by omega, jx hi.2 (beq_eq_false_iff_ne.2 hb)⟩, ⟨qa, qa⟩, ⟨qa, qa⟩, ?_⟩; (first | omega | (dsimp only; omega) | skip))
 ·refine Le.of_eq (congrArg (AV.int _) ?_)
  rw [qew, qer (fun c : Ch => c.name == s) m.chans ch0 (fun j hj => hi.2 j (by omega)), if_pos (by omega)]
theorem jck {α : Type} (enc : α → List AV) (d : α) (L : List α) (g : Nat → List AV) (x : α) (h : g 0 = enc x) (f : Nat → List AV) (i : Nat) (hi : i < 0 + L.length + 1) : appF (0 + L.length) (appF 0 f L.length (encL enc d L)) 1 g i = encL enc d (L ++ [x]) i := by
 simp only [appF, encL, qii, Nat.zero_add] at *
 by_cases h1 : i < L.length
 ·rw [if_pos h1, if_pos h1, if_neg (by omega), if_pos (by omega), Nat.sub_zero]
 ·obtain rfl : i = L.length := by omega
  rw [if_neg h1, if_pos (by omega), Nat.sub_self, h]
  simp
theorem qkf (p : Pr) (hp : 0 ≤ p.places ∧ p.places ≤ 100000) (hr : p.rest.length ≤ 100000) : Con Tryz.prog 101 [prV p] (.tup [prV (qf p), iv p.places]) := by
 refine zK {lit := true} 300 Tryz.func101 (fun c0 rdb => ?_)
 (repeat' ((conv => whnf); first | refine zO ?_ | refine Ob.auto ?_ | (refine zR 300 ?_) | fail))
 refine Le.tup ⟨Le.agg ⟨Le.refl _, Le.refl _, Le.refl _, Le.refl _, Le.slc ?_ (fun i hi => ?_), Le.refl _, Le.refl _, Le.refl _, trivial⟩, Le.of_eq (congrArg (AV.int _) ?_), trivial⟩
 ·simp [qf]
 ·exact jck _ false p.rest _ false rfl _ i hi
 ·omega
theorem qcr (p : Pr) (hp : p.edges.length ≤ 100000) (frm to act node expr v c : Int) : qhu 99 [prV p, iv frm, iv to, iv act, iv node, iv expr, iv v, iv c] [] (putF p frm to act node expr v c) := by
 refine qda (T := tab Tryz.prog) (C := {lit := true}) 5 300 (fun _ => rfl) Tryz.func99 rfl (by kernel_rfl) (by kernel_rfl) (fun c0 rdb mpb => ?_)
 (repeat' ((conv => whnf); first | refine Ob.auto ?_ | fail))
 refine ⟨⟨Le.agg ⟨Le.refl _, Le.refl _, Le.refl _, Le.refl _, Le.refl _, Le.of_eq (congrArg (AV.own _ _ _) ?_), Le.refl _, Le.refl _, trivial⟩, trivial⟩, qcz rfl ⟨⟨rfl, rfl, rfl⟩, rfl, ?_, fun i hi => LeL.of_eq ?_⟩⟩
 ·simp [putF]
 ·simp [putF]
 ·exact jck _ ed0 p.edges _ _ rfl _ i hi
theorem qve (p : Pr) (a idle : Int) (ha : 0 ≤ a ∧ a < p.rest.length) (hr : p.rest.length ≤ 100000) : Con Tryz.prog 133 [prV p, iv a, iv idle] (prV (jy p a idle)) := by
 refine zK {lit := true} 300 Tryz.func133 (fun c0 rdb => ?_)
 (repeat' ((conv => whnf); first | refine Ob.auto ?_ | (apply zB <;> intro hb <;> (try simp [-zd] at hb) <;> try (exfalso; omega))))
 ·have hcell : ∀ i, i < p.rest.length → appF 0 (chop 1 []) p.rest.length (encL (fun b => [AV.bool b]) false p.rest) i = [AV.bool (p.rest.getD i false)] := fun i hi => by
   unfold appF encL
   rw [if_neg (by omega), if_pos (by omega), Nat.sub_zero]
  refine Le.agg ⟨Le.refl _, Le.refl _, Le.refl _, Le.refl _, Le.slc ?_ (fun i hi => ?_), Le.refl _, Le.refl _, Le.refl _, trivial⟩
  ·simp [jy, hb]
  ·have hi' : i < p.rest.length := by simpa using hi
   have hr' : (jy p a idle).rest = p.rest.set a.toNat true := by simp [jy, hb]
   rw [hr']
   by_cases e : i = a.toNat
   ·refine (if_pos e).trans ?_
    subst e
    refine (congrArg (fun z => qap z 0 _) (hcell _ hi')).trans ?_
    simp only [encL, zd, List.getElem?_set_self hi']; rfl
   ·refine (if_neg e).trans ((hcell i hi').trans ?_)
    simp only [encL, zd, List.getElem?_set_ne (Ne.symm e)]
 ·have hcell : ∀ i, i < p.rest.length → appF 0 (chop 1 []) p.rest.length (encL (fun b => [AV.bool b]) false p.rest) i = [AV.bool (p.rest.getD i false)] := fun i hi => by
   unfold appF encL
   rw [if_neg (by omega), if_pos (by omega), Nat.sub_zero]
  refine Le.agg ⟨Le.refl _, Le.refl _, Le.refl _, Le.refl _, Le.slc ?_ (fun i hi => ?_), Le.refl _, Le.refl _, Le.refl _, trivial⟩
  ·simp [jy, hb]
  ·have hi' : i < p.rest.length := by simpa using hi
   have hr' : (jy p a idle).rest = p.rest := by simp [jy, hb]
   rw [hr']
   exact hcell i hi'
end Go.Proofs.YtdoaagphhjggbaaGreat
end
