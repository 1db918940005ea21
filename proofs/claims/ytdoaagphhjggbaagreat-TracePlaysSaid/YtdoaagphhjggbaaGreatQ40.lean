/- Some texts of the library, one behind the other. -/
import Derived.Test.YtdoaagphhjggbaaGreatQ34
import Derived.Test.YtdoaagphhjggbaaGreatQ32
import Derived.Test.YtdoaagphhjggbaaGreatQ39
import Derived.Test.YtdoaagphhjggbaaGreatQ31
import Derived.Test.YtdoaagphhjggbaaGreatQ2
section
namespace Go.Proofs.YtdoaagphhjggbaaGreat
open List renaming getD_eq_getElem?_getD → zd
open Go Go.Sx Go.RowKit Go.St
set_option maxRecDepth 100000
set_option maxHeartbeats 4000000
theorem jsc (m : Md) (hM : ModOk m) (s : Stt) (hs : SSz s) : Con Tryz.prog 16 [m.av, s.av] (.bool (qh m s && qnn m s)) := by
 have hft := qed m s hs
 by_cases hf : qh m s = true
 ·have hmv := jrf m hM s hf
  have h0 := (je m s).1 hf
  have hz := hM.sz
  have hr := fun (q : Pr) hq => (hM.pr q hq).rl
  rw [hf] at hft
  rw [hf, Bool.true_and]
  unfold qnn
  generalize hL : qce m s = L at hmv
  refine zK {} 300 Tryz.func16 (fun c0 rdb => ?_)
  (repeat' ((conv => whnf); first | refine Ob.auto ?_ | refine zC 300 (hft) ?_ | refine zG 300 (fun hg => hmv) ?_ | (apply zB <;> intro hb <;> (try simp [-zd] at hb) <;> try (exfalso; omega))))
  ·rw [show L.isEmpty = false from by cases L with | nil => simp at hb | cons a b => rfl]
   exact Le.refl _
  ·subst hb
   have hat := h0.1.1
   have hfa := h0.2.1
   ((conv => whnf); refine qk (fun _ => rfl) 300 1 (fun i : Nat => [(21, iv i), (4, .bool false)]) (fun _ => []) (fun i => i ≤ m.procs.length ∧ ∀ j, j < i → (m.procs.getD j pr0).rest.getD (s.at_.getD j 0).toNat false = true) (fun i => m.procs.length - i) (0) (⟨Nat.zero_le _, fun j hj => absurd hj (Nat.not_lt_zero j)⟩) qa qa (fun _ => rfl) (by kernel_rfl) ?_; (conv => whnf))
   intro i hi
   have hri : i < m.procs.length → 0 ≤ s.at_.getD i 0 ∧ s.at_.getD i 0 < ((m.procs.getD i pr0).rest.length : Int) := fun h => by
    have h1 := hfa i (by omega)
    have h2 := hr _ (qj m.procs i pr0 h)
    unfold qkd at h1
    omega
   (repeat' ((conv => whnf); first | refine zO ?_ | refine Ob.auto ?_ | refine zD 300 ?_ | (apply zB <;> intro hb <;> (try simp [-zd] at hb) <;> try (exfalso; omega))))
   ·rw [show qui m s = false from qqs (i := i) (by omega) (by assumption)]
    exact Le.refl _
   ·((conv => whnf); refine ⟨i + 1, ⟨by omega, jn hi.2 (by assumption)⟩, ⟨qa, qa⟩, ⟨qa, qa⟩, ?_⟩; (first | omega | (dsimp only; omega) | skip))
   ·rw [show qui m s = true from qkc fun j hj => hi.2 j (by omega)]
    exact Le.refl _
 ·rw [Bool.not_eq_true] at hf
  rw [hf] at hft
  rw [hf]
  refine zK {} 300 Tryz.func16 (fun c0 rdb => ?_)
  (repeat' ((conv => whnf); first | refine Ob.auto ?_ | refine zC 300 (hft) ?_ | refine zG 300 (fun hg => (absurd hg (by decide) : Con Tryz.prog 14 [m.av, s.av] (.slc 4 0 (fun _ => [])))) ?_ | (apply zB <;> intro hb <;> (try simp [-zd] at hb) <;> try (exfalso; omega))))
  exact Le.refl _
theorem jsd (m : Md) (hM : ModOk m) (s : Stt) (hs : SSz s) : Con Tryz.prog 18 [m.av, s.av] (.bool (qh m s && badB m s)) := by
 have hft := qed m s hs
 have hsf := jrc m hM.ok s hs
 have hdd := jsc m hM s hs
 by_cases hf : qh m s = true
 ·rw [hf] at hft hsf hdd
  rw [hf, Bool.true_and]
  have e : (m.safe.isEmpty || (true && qlo m s)) = qlo m s := by
   rw [Bool.true_and]
   unfold qlo
   cases m.safe with
   | nil => rfl
   | cons a b => rfl
  rw [e] at hsf
  rw [Bool.true_and] at hdd
  unfold badB
  refine zK {} 300 Tryz.func18 (fun c0 rdb => ?_)
  (repeat' ((conv => whnf); first | refine Ob.auto ?_ | refine zC 300 (hft) ?_ | refine zC 300 (hsf) ?_ | refine zG 300 (fun hg => hdd) ?_ | (apply zB <;> intro hb <;> (try simp [-zd] at hb) <;> try (exfalso; omega))))
  exact Le.refl _
 ·rw [Bool.not_eq_true] at hf
  rw [hf] at hft
  rw [hf]
  refine zK {} 300 Tryz.func18 (fun c0 rdb => ?_)
  (repeat' ((conv => whnf); first | refine Ob.auto ?_ | refine zC 300 (hft) ?_ | (apply zB <;> intro hb <;> (try simp [-zd] at hb) <;> try (exfalso; omega))))
  exact Le.refl _
end Go.Proofs.YtdoaagphhjggbaaGreat
end
section
namespace Go.Proofs.YtdoaagphhjggbaaGreat
open Go Go.Sx Go.RowKit Go.St
set_option maxRecDepth 100000
set_option maxHeartbeats 2000000
theorem qrz (m : Md) (hm : MOk m) : Con Tryz.prog 26 [m.av] (qu m).av := by
 have hsz := hm.sz
 refine zK {} 300 Tryz.func26 (fun c0 rdb => ?_)
 (repeat' ((conv => whnf); first | refine zO ?_ | refine Ob.auto ?_ | (refine Ob.intro (by ((refine ⟨by omega, by omega, by omega, ?_⟩; dsimp only; refine Int.le_trans (Int.mul_le_mul_of_nonneg_right (?_ : _ ≤ (4000001 : Int)) (Int.natCast_nonneg _)) (by decide +kernel); omega))) ?_) | (refine zR 300 ?_) | fail))
 ((conv => whnf); refine qk (fun _ => rfl) 300 1 (fun i : Nat => [(22, iv i)]) (fun i => [(9, .row [] 3 1 0 m.vars.length (fun j => [if j < i then iv (m.vars.getD j vr0).value else iv 0]))]) (fun i => i ≤ m.vars.length) (fun i => m.vars.length - i) (0) (by omega) qa ⟨qaw (fun k _ => by kernel_rfl), trivial⟩ (fun _ => rfl) (by kernel_rfl) ?_; (conv => whnf))
 intro i hi
 (repeat' ((conv => whnf); first | refine Ob.auto ?_ | (apply zB <;> intro hb <;> (try simp [-List.getD_eq_getElem?_getD] at hb) <;> try (exfalso; omega))))
 ·((conv => whnf); refine ⟨i + 1, by omega, ⟨qa, qa⟩, ⟨qa, qa⟩, ?_⟩; (first | omega | (dsimp only; omega) | skip))
 ·obtain rfl : i = m.vars.length := by omega
  refine Le.agg ⟨Le.slc (by simp [qu]) (fun j hj => ?_), Le.slc (by simp [qu]) (fun j hj => ?_), Le.slcL (by simp [qu]) (fun j hj => ?_), Le.refl _, trivial⟩
  ·show _ = [iv ((qu m).at_.getD j 0)]
   rw [qu, qke _ _ _ _ (by simpa using hj)]; kernel_rfl
  ·show [if j < m.vars.length then iv (m.vars.getD j vr0).value else iv 0] = [iv ((qu m).vars.getD j 0)]
   rw [if_pos (by simpa using hj), qu, quf _ _ _ _ vr0 (by simpa using hj)]
  ·show LeL [.nils] [ints ((qu m).chans.getD j [])]
   rw [qu, qke _ _ _ _ (by simpa using hj)]
   exact ⟨Le.nils _ _, trivial⟩
set_option maxHeartbeats 4000000
def qdq (m : Md) (l : List Mv) : Bool := decide (nF m l = l.length) && badB m (stN m l (nF m l))
theorem jet {m : Md} (hM : ModOk m) (h0 : qh m (qu m) = true) (l : List Mv) : qh m (stN m l (nF m l)) = true := qgd hM h0 (qro m l).2.1
theorem jse (m : Md) (hM : ModOk m) (h0 : qh m (qu m) = true) (l : List Mv) (hl : l.length ≤ 1000000) : Con Tryz.prog 62 [m.av, qbx l] (.bool (qdq m l)) := by
 have hst := qwl m hM h0 l hl
 have hbd := jri m hM (stN m l (nF m l)) (jet hM h0 l)
 have hn := (qro m l).1
 have hlen : (qbf m l).length = nF m l + 1 := by simp [qbf]
 have hget : (qbf m l).getD (nF m l) st0z = stN m l (nF m l) := by unfold qbf; rw [qqr _ _ _ _ (by omega)]
 unfold qdq
 generalize qbf m l = L at hst hlen hget
 refine zK {} 300 Tryz.func62 (fun c0 rdb => ?_)
 (repeat' ((conv => whnf); first | refine zC 300 (hst) ?_ | fail))
 have hbd' : Con Tryz.prog 19 [m.av, (L.getD ((L.length : Int) - 1).toNat st0z).av] (.bool (badB m (stN m l (nF m l)))) := by
  rw [show ((L.length : Int) - 1).toNat = nF m l by omega, hget]; exact hbd
 (repeat' ((conv => whnf); first | refine zA ?_ | refine Ob.auto ?_ | (refine CallZ.con (fun hg => hbd') qen (by rfl) ?_) | (refine zQ 300 ?_) | fail))
 refine Le.of_eq (congrArg AV.bool ?_)
 congr 1
 rw [Bool.eq_iff_iff, beq_iff_eq, decide_eq_true_eq]
 omega
theorem qwm {m : Md} (hM : ModOk m) {l : List Mv} {i : Nat} (hf : qh m (stN m l i) = true) (hok : okN m l i = true) : Con Tryz.prog 22 [m.av, (stN m l i).av, (l.getD i {}).av] (.tup [(stN m l (i + 1)).av, .bool true]) := by
 have hdo := jer m hM (stN m l i) (qbo hM hf) (l.getD i {})
 have hde : doB m (stN m l i) (l.getD i {}) = true := by unfold doB; rw [hf, Bool.true_and]; exact hok
 unfold qrn at hdo
 rw [hde, if_pos rfl] at hdo
 exact hdo
theorem qwn {m : Md} (hM : ModOk m) {l : List Mv} {i : Nat} (hf : qh m (stN m l i) = true) (hok : okN m l i = false) : Con Tryz.prog 22 [m.av, (stN m l i).av, (l.getD i {}).av] (.tup [st0z.av, .bool false]) := by
 have hdo := jer m hM (stN m l i) (qbo hM hf) (l.getD i {})
 have hde : doB m (stN m l i) (l.getD i {}) = false := by unfold doB; rw [hf, Bool.true_and]; exact hok
 unfold qrn at hdo
 rw [hde, if_neg (by decide)] at hdo
 exact hdo
theorem jsf (i : Int) (s t : Stt) : Con Tryz.prog 60 [iv i, s.av, t.av] (.tup []) := by
 refine zK {} 300 Tryz.func60 (fun c0 rdb => ?_)
 (repeat' ((conv => whnf); first | refine Ob.auto ?_ | fail))
 exact Le.refl _
theorem jeu (m : Md) (hM : ModOk m) (h0 : qh m (qu m) = true) (l : List Mv) (hl : l.length ≤ 1000000) : Con Tryz.prog 56 [m.av, qbx l, .fn 60 []] (.tup [(stN m l (nF m l)).av, iv (nF m l)]) := by
 refine zK {} 300 Tryz.func56 (fun c0 rdb => ?_)
 (repeat' ((conv => whnf); first | refine zC 300 (qrz m hM.ok) ?_ | fail))
 ((conv => whnf); refine qk (fun _ => rfl) 300 1 (fun i : Nat => [(17, iv i)]) (fun i => [(2, .box 34 (stN m l i).cells)]) (fun i => i ≤ l.length ∧ ∀ j, j < i → okN m l j = true) (fun i => l.length - i) (0) (⟨Nat.zero_le _, fun j hj => absurd hj (Nat.not_lt_zero j)⟩) qa qa (fun _ => rfl) (by kernel_rfl) ?_; (conv => whnf))
 rintro i ⟨hi, hp⟩
 have hf := qgd hM h0 hp
 by_cases hok : okN m l i = true
 ·have hdo := qwm hM hf hok
  (repeat' ((conv => whnf); first | refine Ob.auto ?_ | refine zC 300 (hdo) ?_ | refine zC 300 (jsf i (stN m l i) (stN m l (i + 1))) ?_ | (apply zB <;> intro hb <;> (try simp [-List.getD_eq_getElem?_getD] at hb) <;> try (exfalso; omega))))
  ·((conv => whnf); refine ⟨i + 1, ⟨by omega, jn hp hok⟩, ⟨qa, qa⟩, ⟨qa, qa⟩, ?_⟩; (first | omega | (dsimp only; omega) | skip))
  ·obtain rfl : i = l.length := by omega
   rw [qfi hi hp (.inl rfl)]; exact Le.refl _
 ·have hdo := qwn hM hf (Bool.not_eq_true _ ▸ hok)
  (repeat' ((conv => whnf); first | refine Ob.auto ?_ | refine zC 300 (hdo) ?_ | (apply zB <;> intro hb <;> (try simp [-List.getD_eq_getElem?_getD] at hb) <;> try (exfalso; omega))))
  ·rw [qfi hi hp (.inr (Bool.not_eq_true _ ▸ hok))]; exact Le.refl _
  ·obtain rfl : i = l.length := by omega
   rw [qfi hi hp (.inl rfl)]; exact Le.refl _
theorem jsg (m : Md) (hM : ModOk m) (h0 : qh m (qu m) = true) (l : List Mv) (hl : l.length ≤ 1000000) : Con Tryz.prog 33 [m.av, qbx l] (.tup [(stN m l (nF m l)).av, iv (nF m l)]) := by
 refine zK {} 300 Tryz.func33 (fun c0 rdb => ?_)
 (repeat' ((conv => whnf); first | refine Ob.auto ?_ | refine zC 300 (jeu m hM h0 l hl) ?_ | fail))
 exact Le.refl _
theorem jsh (m : Md) (hM : ModOk m) (h0 : qh m (qu m) = true) (l : List Mv) (hl : l.length ≤ 1000000) : Con Tryz.prog 34 [m.av, qbx l] (.bool (qdq m l)) := by
 have hf := jet hM h0 l
 have hbd := jsd m hM (stN m l (nF m l)) (qbo hM hf)
 rw [hf, Bool.true_and] at hbd
 refine zK {} 300 Tryz.func34 (fun c0 rdb => ?_)
 (repeat' ((conv => whnf); first | refine Ob.auto ?_ | refine zC 300 (jeu m hM h0 l hl) ?_ | refine zG 300 (fun hg => hbd) ?_ | fail))
 refine Le.of_eq (congrArg AV.bool ?_)
 unfold qdq
 congr 1
 rw [Bool.eq_iff_iff, beq_iff_eq, decide_eq_true_eq]
 omega
end Go.Proofs.YtdoaagphhjggbaaGreat
end
section
namespace Go.Proofs.YtdoaagphhjggbaaGreat
open List renaming getD_eq_getElem?_getD → zd
open Go Go.Sx Go.RowKit Go.St
set_option maxRecDepth 100000
set_option maxHeartbeats 4000000
theorem jsi (s : Stt) (hs : SSz s) : Con Tryz.prog 51 [s.av] s.av := by
 have ha := hs.a
 have hv := hs.v
 have hc := hs.c
 have hl := hs.l
 refine zK {} 300 Tryz.func51 (fun c0 rdb => ?_)
 ((conv => whnf); refine qav (fun _ => rfl) (by kernel_rfl) 300 [.new [ints s.at_] (.own 0 0 0 s.at_.length) [(0, .row [] 3 1 0 s.at_.length (encL (fun n => [iv n]) 0 s.at_))] 1, .new [ints s.vars] (.own 0 0 0 s.vars.length) [(0, .row [] 3 1 0 s.vars.length (encL (fun n => [iv n]) 0 s.vars))] 1] (by kernel_rfl) ?_)
 (repeat' ((conv => whnf); first | refine Ob.auto ?_ | (refine Ob.intro (by (first | (refine ⟨by omega, by omega, by omega, ?_⟩; dsimp only; refine Int.le_trans (Int.mul_le_mul_of_nonneg_right (?_ : _ ≤ (4000001 : Int)) (Int.natCast_nonneg _)) (by decide +kernel); omega) | exact ⟨qks s.at_ hs.a, by rfl, LeL.refl _, by kernel_rfl, by kernel_rfl, by exact qb rfl⟩ | exact ⟨qks s.vars hs.v, by rfl, LeL.refl _, by kernel_rfl, by kernel_rfl, by exact qb rfl⟩)) ?_) | fail))
 ((conv => whnf); refine qk (fun _ => rfl) 300 1 (fun i : Nat => [(22, iv i)]) (fun i => [(13, .row [] 23 1 0 s.chans.length (fun k => [if k < i then ints (s.chans.getD k []) else .nils]))]) (fun i => i ≤ s.chans.length) (fun i => s.chans.length - i) (0) (by omega) qa ⟨qaw (fun k _ => by rw [if_neg (Nat.not_lt_zero k)]; rfl), trivial⟩ (fun _ => rfl) (by kernel_rfl) ?_; (conv => whnf))
 intro i hi
 (repeat' ((conv => whnf); first | refine Ob.auto ?_ | (apply zB <;> intro hb <;> (try simp [-zd] at hb) <;> try (exfalso; omega))))
 ·((conv => whnf); refine qav (fun _ => rfl) (by kernel_rfl) 300 [.con (ints (s.chans.getD i []))] (by kernel_rfl) ?_)
  (repeat' ((conv => whnf); first | refine Ob.auto ?_ | (refine Ob.intro (by (first | exact ⟨by omega, by omega⟩ | exact ⟨_, jei (s.chans.getD i []) (hl _ (qj _ _ _ (by omega))), by rfl, LeL.refl _⟩)) ?_) | fail))
  ((conv => whnf); refine ⟨i + 1, by omega, ⟨qa, qa⟩, ⟨qa, qa⟩, ?_⟩; (first | omega | (dsimp only; omega) | skip))
 ·obtain rfl : i = s.chans.length := by omega
  exact Le.agg ⟨Le.refl _, Le.refl _, Le.slcL rfl (fun k hk => LeL.of_eq (congrArg (fun x : AV => [x]) (if_pos hk))), Le.refl _, trivial⟩
def boxT (n : Nat) : SO := .box 59 [.own 1 0 0 n]
def rowT (l : List Stt) : SO := .row [] 34 4 0 l.length (encL Stt.cells st0z l)
theorem jsj (i : Int) (s t : Stt) (hs : SSz t) (L : List Stt) (hL : L.length ≤ 1000000) : Trip Tryz.prog 57 [iv i, s.av, t.av, .ptr 0 0] [boxT L.length, rowT L] (.tup []) [(0, boxT (L.length + 1)), (1, rowT (L ++ [t]))] 2 := by
 unfold boxT rowT
 refine zL {lit := true} 300 Tryz.func57 (fun c0 rdb mpb => ?_)
 ((conv => whnf); refine qav (fun _ => rfl) (by kernel_rfl) 300 [.con t.av] (by kernel_rfl) ?_)
 (repeat' ((conv => whnf); first | refine Ob.auto ?_ | (refine Ob.intro (by (first | exact ⟨_, jsi t hs, by rfl, LeL.refl _⟩ | (refine ⟨by omega, by omega, by omega, ?_⟩; dsimp only; refine Int.le_trans (Int.mul_le_mul_of_nonneg_right (?_ : _ ≤ (4000001 : Int)) (Int.natCast_nonneg _)) (by decide +kernel); omega))) ?_) | fail))
 exact ⟨Le.refl _, ⟨rfl, Le.refl _, trivial⟩, qer Stt.cells st0z rfl rfl, trivial⟩
theorem jsk (m : Md) (hM : ModOk m) (h0 : qh m (qu m) = true) (l : List Mv) (hl : l.length ≤ 1000000) : Trip Tryz.prog 56 [m.av, qbx l, .fn 57 [.ptr 0 0]] [boxT 1, rowT [qu m]] (.tup [(stN m l (nF m l)).av, iv (nF m l)]) [(0, boxT (nF m l + 1)), (1, rowT (qbf m l))] 2 := by
 unfold boxT rowT
 refine zL {} 300 Tryz.func56 (fun c0 rdb mpb => ?_)
 (repeat' ((conv => whnf); first | refine zC 300 (qrz m hM.ok) ?_ | fail))
 ((conv => whnf); refine qk (fun _ => rfl) 300 1 (fun i : Nat => [(17, iv i)]) (fun i => [(4, .box 34 (stN m l i).cells), (0, .box 59 [.own 1 0 0 ((List.range (i + 1)).map (stN m l)).length]), (1, .row [] 34 4 0 ((List.range (i + 1)).map (stN m l)).length (encL Stt.cells st0z ((List.range (i + 1)).map (stN m l))))]) (fun i => i ≤ l.length ∧ ∀ j, j < i → okN m l j = true) (fun i => l.length - i) (0) (⟨Nat.zero_le _, fun j hj => absurd hj (Nat.not_lt_zero j)⟩) qa qa (fun _ => rfl) (by kernel_rfl) ?_; (conv => whnf))
 rintro i ⟨hi, hp⟩
 have hf := qgd hM h0 hp
 have hlen : ((List.range (i + 1)).map (stN m l)).length = i + 1 := by simp
 have hsn : (List.range (i + 1)).map (stN m l) ++ [stN m l (i + 1)] = (List.range (i + 1 + 1)).map (stN m l) := by rw [List.range_succ (n := i + 1), List.map_append]; rfl
 have hst : nF m l = i → (List.range (i + 1)).map (stN m l) = qbf m l := fun h => by unfold qbf; rw [h]
 generalize (List.range (i + 1)).map (stN m l) = L at hlen hsn hst ⊢
 by_cases hok : okN m l i = true
 ·have hdo := qwm hM hf hok
  have hf1 := qgd hM h0 (jn hp hok)
  (repeat' ((conv => whnf); first | refine Ob.auto ?_ | refine zC 300 (hdo) ?_ | (apply zB <;> intro hb <;> (try simp [-zd] at hb) <;> try (exfalso; omega))))
  ·((conv => whnf); refine zT 300 [0, 1] (jsj i (stN m l i) (stN m l (i + 1)) (qbo hM hf1) L (by omega)) qa ?_)
   (repeat' ((conv => whnf); first | refine Ob.auto ?_ | fail))
   ((conv => whnf); refine ⟨i + 1, ⟨by omega, jn hp hok⟩, ⟨qa, ⟨⟨rfl, Le.refl _, Le.refl _, Le.refl _, Le.refl _, trivial⟩, ⟨rfl, qge hsn 1, trivial⟩, qee Stt.cells st0z hsn, trivial⟩⟩, ⟨qa, qa⟩, ?_⟩; (first | omega | (dsimp only; omega) | skip))
  ·obtain rfl : i = l.length := by omega
   have hn : nF m l = l.length := qfi hi hp (.inl rfl)
   rw [← hst hn, hn]
   exact ⟨Le.tup ⟨Le.refl _, Le.refl _, trivial⟩, ⟨rfl, Le.of_eq (by rw [hlen]), trivial⟩, SoLe.refl _, trivial⟩
 ·have hdo := qwn hM hf (Bool.not_eq_true _ ▸ hok)
  (repeat' ((conv => whnf); first | refine Ob.auto ?_ | refine zC 300 (hdo) ?_ | (apply zB <;> intro hb <;> (try simp [-zd] at hb) <;> try (exfalso; omega))))
  ·have hn : nF m l = i := qfi hi hp (.inr (Bool.not_eq_true _ ▸ hok))
   rw [← hst hn, hn]
   exact ⟨Le.tup ⟨Le.refl _, Le.refl _, trivial⟩, ⟨rfl, Le.of_eq (by rw [hlen]), trivial⟩, SoLe.refl _, trivial⟩
  ·obtain rfl : i = l.length := by omega
   have hn : nF m l = l.length := qfi hi hp (.inl rfl)
   rw [← hst hn, hn]
   exact ⟨Le.tup ⟨Le.refl _, Le.refl _, trivial⟩, ⟨rfl, Le.of_eq (by rw [hlen]), trivial⟩, SoLe.refl _, trivial⟩
theorem jsl (m : Md) (hM : ModOk m) (h0 : qh m (qu m) = true) (l : List Mv) (hl : l.length ≤ 1000000) : Con Tryz.prog 30 [m.av, qbx l] (qwe (qbf m l)) := by
 refine zK {lit := true} 300 Tryz.func30 (fun c0 rdb => ?_)
 (repeat' ((conv => whnf); first | refine zC 300 (qrz m hM.ok) ?_ | fail))
 ((conv => whnf); refine zT 300 [2, 1] (jsk m hM h0 l hl) (?_) ?_)
 ·exact ⟨⟨rfl, Le.refl _, trivial⟩, ⟨⟨rfl, rfl, rfl⟩, rfl, rfl, fun k hk => match k, hk with | 0, _ => LeL.refl _ | k + 1, hk => absurd (show k + 1 < 1 from hk) (by omega)⟩, trivial⟩
 have hlen : (qbf m l).length = nF m l + 1 := by simp [qbf]
 (repeat' ((conv => whnf); first | refine Ob.intro ?_ ?_ | fail))
 ·exact ⟨trivial, ⟨rfl, hlen.symm⟩, trivial⟩
 ·exact Le.slc hlen.symm (fun _ _ => rfl)
end Go.Proofs.YtdoaagphhjggbaaGreat
end
section
namespace Go.St
open Go Go.Sx
def qax (s : Stt) (c : Int) : Int := (s.chans.getD c.toNat []).getD 0 0
def qef (s : Stt) (c : Int) : Int := (s.chans.getD c.toNat []).getD ((s.chans.getD c.toNat []).length - 1) 0
def edOf (m : Md) (v : Mv) : Ed := (edgesOf m v.proc.toNat).getD v.edge.toNat ed0
def evOf (m : Md) (s t : Stt) (i : Nat) (v : Mv) (E : List Ev) : Option Ev :=
 if v.kind = 1 then some ⟨2, i, -1, v.chn, qax s v.chn, qap E v.chn⟩
 else if v.kind = 2 then some ⟨3, i, -1, v.chn, qax s v.chn, qap E v.chn⟩
 else if (edOf m v).act = 2 then some ⟨0, i, v.proc, (edOf m v).chn, qef t (edOf m v).chn, -1⟩
 else if (edOf m v).act = 3 then some ⟨1, i, v.proc, (edOf m v).chn, qax s (edOf m v).chn, qap E (edOf m v).chn⟩
 else none
def evN (m : Md) (l : List Mv) : Nat → List Ev
 | 0 => []
 | i + 1 => evN m l i ++ (evOf m (stN m l i) (stN m l (i + 1)) i (l.getD i {}) (evN m l i)).toList
def qdf (m : Md) (l : List Mv) : List Ev := evN m l (nF m l)
theorem qsa (m : Md) (l : List Mv) : ∀ i, (evN m l i).length ≤ i
 | 0 => Nat.le_refl _
 | i + 1 => by
  have := qsa m l i
  unfold evN
  rw [List.length_append]
  have : (evOf m (stN m l i) (stN m l (i + 1)) i (l.getD i {}) (evN m l i)).toList.length ≤ 1 := by
   cases evOf m (stN m l i) (stN m l (i + 1)) i (l.getD i {}) (evN m l i) <;> simp
  omega
def qdg (m : Md) (s : Stt) (E : List Ev) : Prop := ∀ c : Nat, c < m.chans.length → jh E c ≤ (qak E c).length ∧ (jb E c).length = (s.chans.getD c []).length
theorem qwo {E : List Ev} {e : Ev} {c : Int} (hp : qde c e = true) (hg : jh E c ≤ (qak E c).length) : jh (E ++ [e]) c = jh E c ∧ jh (E ++ [e]) c ≤ (qak (E ++ [e]) c).length ∧ jb (E ++ [e]) c = jb E c ++ [E.length] := by
 have ht : qeq c e = false := by
  unfold qde at hp
  unfold qeq
  have := of_decide_eq_true hp
  exact decide_eq_false (by omega)
 have h1 : jh (E ++ [e]) c = jh E c := by rw [qrq, ht]; rfl
 have h2 : qak (E ++ [e]) c = qak E c ++ [E.length] := by rw [qrp, if_pos hp]
 refine ⟨h1, by rw [h1, h2, List.length_append]; omega, ?_⟩
 unfold jb
 rw [h1, h2, List.drop_append_of_le_length hg]
theorem jev {E : List Ev} {e : Ev} {c : Int} (ht : qeq c e = true) (hg : jh E c ≤ (qak E c).length) (hw : 0 < (jb E c).length) : jh (E ++ [e]) c = jh E c + 1 ∧ jh (E ++ [e]) c ≤ (qak (E ++ [e]) c).length ∧ jb (E ++ [e]) c = (jb E c).drop 1 := by
 have hp : qde c e = false := by
  unfold qeq at ht
  unfold qde
  have := of_decide_eq_true ht
  exact decide_eq_false (by omega)
 have h1 : jh (E ++ [e]) c = jh E c + 1 := by rw [qrq, ht]; rfl
 have h2 : qak (E ++ [e]) c = qak E c := by rw [qrp, hp]; simp
 unfold jb at hw
 rw [List.length_drop] at hw
 refine ⟨h1, by rw [h1, h2]; omega, ?_⟩
 unfold jb
 rw [h1, h2, List.drop_drop]
theorem qhg {E : List Ev} {e : Ev} {c : Int} (h : e.ch ≠ c) : jh (E ++ [e]) c = jh E c ∧ qak (E ++ [e]) c = qak E c ∧ jb (E ++ [e]) c = jb E c := by
 have hp : qde c e = false := decide_eq_false (fun k => h k.1)
 have ht : qeq c e = false := decide_eq_false (fun k => h k.1)
 have h1 : jh (E ++ [e]) c = jh E c := by rw [qrq, ht]; rfl
 have h2 : qak (E ++ [e]) c = qak E c := by rw [qrp, hp]; simp
 exact ⟨h1, h2, by unfold jb; rw [h1, h2]⟩
end Go.St
end
