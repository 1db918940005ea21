/- Some texts of the library, one behind the other. -/
import Derived.Test.YtdoaagphhjggbaaGreatQ25
import Derived.Test.YtdoaagphhjggbaaGreatQ24
import Derived.Test.YtdoaagphhjggbaaGreatQ28
import Derived.Test.YtdoaagphhjggbaaGreatQ30
import Derived.Test.YtdoaagphhjggbaaGreatQ27
import Derived.Test.YtdoaagphhjggbaaGreatQ26
import Derived.Test.YtdoaagphhjggbaaGreatQ2
section
namespace Go.Proofs.YtdoaagphhjggbaaGreat
open List renaming getD_eq_getElem?_getD → zd
open Go Go.Sx Go.RowKit Go.St
set_option maxRecDepth 100000
set_option maxHeartbeats 2000000
theorem jfc (m : Md) (hm : MOk m) : Con Tryz.prog 38 [m.av] (qq m).av := by
 have hsz := hm.sz
 refine zK {} 300 Tryz.func38 (fun c0 rdb => ?_)
 refine qcq 2 0 3 1 rfl rfl ?_
 ((conv => whnf); refine qio (fun _ => rfl) 300 1 [1, 2, 3] [0, 1] (fun i : Nat => [(4, iv i)]) (fun i => [(2, .box 34 [.own 3 0 0 i, .nils, .nils, iv (-1)]), (3, .row [] 3 1 0 i (fun _ => [iv 0]))]) (fun i => i ≤ m.procs.length) (fun i => m.procs.length - i) (0) (by omega) qa qa (fun _ => rfl) (by kernel_rfl) ?_; (conv => whnf))
 intro i hi
 (repeat' ((conv => whnf); first | refine Ob.auto ?_ | (apply zB <;> intro hb <;> (try simp [-zd] at hb) <;> try (exfalso; omega))))
 ·((conv => whnf); refine ⟨i + 1, by omega, ⟨qa, qa⟩, ⟨qa, qa⟩, ?_⟩; (first | omega | (dsimp only; omega) | skip))
 obtain rfl : i = m.procs.length := by omega
 clear hi hb
 refine qcq 2 1 3 1 rfl rfl ?_
 ((conv => whnf); refine qio (fun _ => rfl) 300 2 [1, 2, 3] [0, 1, 3] (fun i : Nat => [(5, iv i)]) (fun i => [(2, .box 34 [.own 3 0 0 m.procs.length, .own 4 0 0 i, .nils, iv (-1)]), (4, .row [] 3 1 0 i (fun i => [iv (m.vars.getD i vr0).value]))]) (fun i => i ≤ m.vars.length) (fun i => m.vars.length - i) (0) (by omega) qa qa (fun _ => rfl) (by kernel_rfl) ?_; (conv => whnf))
 intro i hi
 (repeat' ((conv => whnf); first | refine Ob.auto ?_ | (refine zN 300 ?_) | (apply zB <;> intro hb <;> (try simp [-zd] at hb) <;> try (exfalso; omega))))
 ·((conv => whnf); refine ⟨i + 1, by omega, ⟨qa, qa⟩, ⟨qa, qa⟩, ?_⟩; (first | omega | (dsimp only; omega) | skip))
 obtain rfl : i = m.vars.length := by omega
 clear hi hb
 refine qcq 2 2 23 1 rfl rfl ?_
 ((conv => whnf); refine qio (fun _ => rfl) 300 3 [1, 2, 3] [0, 1, 3, 4] (fun i : Nat => [(6, iv i)]) (fun i => [(2, .box 34 [.own 3 0 0 m.procs.length, .own 4 0 0 m.vars.length, .own 5 0 0 i, iv (-1)]), (5, .row [] 23 1 0 i (fun i => [.nils]))]) (fun i => i ≤ m.chans.length) (fun i => m.chans.length - i) (0) (by omega) qa qa (fun _ => rfl) (by kernel_rfl) ?_; (conv => whnf))
 intro i hi
 (repeat' ((conv => whnf); first | refine Ob.auto ?_ | (apply zB <;> intro hb <;> (try simp [-zd] at hb) <;> try (exfalso; omega))))
 ·((conv => whnf); refine ⟨i + 1, by omega, ⟨qa, qa⟩, ⟨qa, qa⟩, ?_⟩; (first | omega | (dsimp only; omega) | skip))
 obtain rfl : i = m.chans.length := by omega
 (conv => whnf)
 refine Le.agg ⟨Le.slc (by simp [qq]) (fun j hj => ?_), Le.slc (by simp [qq]) (fun j hj => ?_), Le.slcL (by simp [qq]) (fun j hj => ?_), Le.refl _, trivial⟩
 ·show [iv 0] = [iv ((qq m).at_.getD j 0)]
  rw [qq, qiu _ _ _ _ hj]
 ·show [iv (m.vars.getD j vr0).value] = [iv ((qq m).vars.getD j 0)]
  rw [qq, qqy _ _ _ _ vr0 hj]
 ·show LeL [.nils] [ints ((qq m).chans.getD j [])]
  rw [qq, qiu _ _ _ _ hj]
  exact ⟨Le.nils _ _, trivial⟩
set_option maxHeartbeats 4000000
theorem jfd {m : Md} (hM : ModOk m) (s : Stt) : (jo m s).length ≤ 1000000 := by
 have h1 := qsa m hM s m.procs.length (Nat.le_refl _)
 have h2 := qrz m s m.chans.length
 have hz := hM.sz
 have e : jo m s = qp m s m.procs.length ++ (if s.holder = -1 then qaw m s m.chans.length else []) := rfl
 rw [e, List.length_append]
 split
 ·omega
 ·simp; omega
theorem jsl (v : Mv) (l : List Mv) (hl : l.length ≤ 1000000) : Con Tryz.prog 86 [v.av, qcj l] (.bool (decide (v ∈ l))) := by
 refine zK {} 300 Tryz.func86 (fun c0 rdb => ?_)
 ((conv => whnf); refine qj (fun _ => rfl) 300 1 (fun i : Nat => [(5, iv i)]) (fun _ => []) (fun i => i ≤ l.length ∧ ∀ j, j < i → l.getD j {} ≠ v) (fun i => l.length - i) (0) (⟨Nat.zero_le _, fun j hj => absurd hj (Nat.not_lt_zero j)⟩) qa qa (fun _ => rfl) (by kernel_rfl) ?_; (conv => whnf))
 intro i hi
 (repeat' ((conv => whnf); first | refine zO ?_ | refine Ob.auto ?_ | refine zD 300 ?_ | (apply zB <;> intro hb <;> (try simp [-zd] at hb) <;> try (exfalso; omega))))
 ·refine Le.of_eq (congrArg AV.bool ?_)
  refine (decide_eq_true ?_).symm
  rw [← jrx hb]
  exact qi l i {} (by omega)
 ·((conv => whnf); refine ⟨i + 1, ⟨by omega, jm hi.2 (fun e => by rw [e] at hb; exact hb rfl rfl rfl rfl)⟩, ⟨qa, qa⟩, ⟨qa, qa⟩, ?_⟩; (first | omega | (dsimp only; omega) | skip))
 ·refine Le.of_eq (congrArg AV.bool ?_)
  refine (decide_eq_false fun h => ?_).symm
  obtain ⟨j, hj, rfl⟩ := List.mem_iff_getElem.1 h
  refine hi.2 j (by omega) ?_
  rw [zd, List.getElem?_eq_getElem hj]; rfl
theorem jfe {m : Md} {l : List Mv} {i : Nat} (h : nF m l = i) : Le (.slc 4 (i + 1) fun j => (stN m l j).cells) (qwl (qbf m l)) := by
 subst h
 refine Le.slc (by simp [qbf]) (fun j hj => ?_)
 unfold encL qbf
 rw [qqv _ _ _ _ hj]
theorem qwt {n : Nat} {f g h : Nat → List AV} (h1 : ∀ k, k < n → f k = h k) (h2 : g 0 = h n) : ∀ k, k < n + 1 → LeL (appF n f 1 g k) (h k) := fun k hk => by
 unfold appF
 by_cases hl : k < n
 ·rw [if_pos hl, h1 k hl]; exact LeL.refl _
 ·obtain rfl : k = n := by omega
  rw [if_neg hl, if_pos hk, Nat.sub_self, h2]; exact LeL.refl _
theorem qwu (m : Md) (hM : ModOk m) (h0 : qg m (qq m) = true) (l : List Mv) (hl : l.length ≤ 1000000) : Con Tryz.prog 61 [m.av, qcj l] (qwl (qbf m l)) := by
 refine zK {lit := true} 300 Tryz.func61 (fun c0 rdb => ?_)
 (repeat' ((conv => whnf); first | refine zC 300 (jfc m hM.ok) ?_ | fail))
 ((conv => whnf); refine qj (fun _ => rfl) 300 1 (fun i : Nat => [(7, iv i), (6, .own 2 0 0 (i + 1))]) (fun i => [(1, .box 34 (stN m l i).cells), (2, .row [] 34 4 0 (i + 1) (fun j => (stN m l j).cells))]) (fun i => i ≤ l.length ∧ ∀ j, j < i → okN m l j = true) (fun i => l.length - i) (0) (⟨Nat.zero_le _, fun j hj => absurd hj (Nat.not_lt_zero j)⟩) qa ⟨⟨rfl, Le.refl _, Le.refl _, Le.refl _, Le.refl _, trivial⟩, qat (fun k hk => match k, hk with | 0, _ => rfl | k + 1, hk => absurd hk (by omega)), trivial⟩ (fun _ => rfl) (by kernel_rfl) ?_; (conv => whnf))
 rintro i ⟨hi, hp⟩
 have hf := qer hM h0 hp
 have hmv := qwp m hM (stN m l i) hf
 have hin := jsl (l.getD i {}) (jo m (stN m l i)) (jfd hM _)
 rw [decide_eq_decide.2 mem_movesF] at hin
 have hde : decide (ji m (stN m l i) (l.getD i {}) = true) = okN m l i := by unfold okN; cases ji m (stN m l i) (l.getD i {}) <;> rfl
 rw [hde] at hin
 have hdo := fun h : okN m l i = true => qws m hM (stN m l i) (l.getD i {}) hf h
 (repeat' ((conv => whnf); first | refine Ob.auto ?_ | (apply zB <;> intro hb <;> (try simp [-zd] at hb) <;> try (exfalso; omega))))
 ·(repeat' ((conv => whnf); first | refine zA ?_ | refine Ob.auto ?_ | (refine CallY.con (hmv) (by rfl) leA ?_) | (refine CallY.con (hin) (by rfl) leA ?_) | (refine zQ 300 ?_) | (apply zB <;> intro hb <;> (try simp [-zd] at hb) <;> try (exfalso; omega))))
  ·exact jfe (qfj hi hp (.inr hb))
  ·(repeat' ((conv => whnf); first | refine zA ?_ | refine Ob.auto ?_ | (refine CallY.con (hdo hb) (by rfl) leA ?_) | fail))
   ((conv => whnf); refine ⟨i + 1, ⟨by omega, jm hp hb⟩, ⟨qa, ⟨⟨rfl, Le.refl _, Le.refl _, Le.refl _, Le.refl _, trivial⟩, ⟨⟨rfl, rfl, rfl⟩, rfl, rfl, qwt (fun _ _ => rfl) rfl⟩, trivial⟩⟩, ⟨qa, qa⟩, ?_⟩; (first | omega | (dsimp only; omega) | skip))
 ·obtain rfl : i = l.length := by omega
  exact jfe (qfj hi hp (.inl rfl))
theorem jsm (m : Md) (hM : ModOk m) (s : Stt) (hs : SSz s) : Con Tryz.prog 16 [m.av, s.av] (.bool (qg m s && qol m s)) := by
 have hft := qed m s hs
 by_cases hf : qg m s = true
 ·have hmv := jrt m hM s hf
  have h0 := (jc m s).1 hf
  have hz := hM.sz
  have hr := fun (q : Pr) hq => (hM.pr q hq).rl
  rw [hf] at hft
  rw [hf, Bool.true_and]
  unfold qol
  generalize hL : jo m s = L at hmv
  refine zK {} 300 Tryz.func16 (fun c0 rdb => ?_)
  (repeat' ((conv => whnf); first | refine Ob.auto ?_ | refine zC 300 (hft) ?_ | refine zG 300 (fun hg => hmv) ?_ | (apply zB <;> intro hb <;> (try simp [-zd] at hb) <;> try (exfalso; omega))))
  ·rw [show L.isEmpty = false from by cases L with | nil => simp at hb | cons a b => rfl]
   exact Le.refl _
  ·subst hb
   have hat := h0.1.1
   have hfa := h0.2.1
   ((conv => whnf); refine qj (fun _ => rfl) 300 1 (fun i : Nat => [(21, iv i), (4, .bool false)]) (fun _ => []) (fun i => i ≤ m.procs.length ∧ ∀ j, j < i → (m.procs.getD j pr0).rest.getD (s.at_.getD j 0).toNat false = true) (fun i => m.procs.length - i) (0) (⟨Nat.zero_le _, fun j hj => absurd hj (Nat.not_lt_zero j)⟩) qa qa (fun _ => rfl) (by kernel_rfl) ?_; (conv => whnf))
   intro i hi
   have hri : i < m.procs.length → 0 ≤ s.at_.getD i 0 ∧ s.at_.getD i 0 < ((m.procs.getD i pr0).rest.length : Int) := fun h => by
    have h1 := hfa i (by omega)
    have h2 := hr _ (qi m.procs i pr0 h)
    unfold qkc at h1
    omega
   (repeat' ((conv => whnf); first | refine zO ?_ | refine Ob.auto ?_ | refine zD 300 ?_ | (apply zB <;> intro hb <;> (try simp [-zd] at hb) <;> try (exfalso; omega))))
   ·rw [show qwk m s = false from qqw (i := i) (by omega) (by assumption)]
    exact Le.refl _
   ·((conv => whnf); refine ⟨i + 1, ⟨by omega, jm hi.2 (by assumption)⟩, ⟨qa, qa⟩, ⟨qa, qa⟩, ?_⟩; (first | omega | (dsimp only; omega) | skip))
   ·rw [show qwk m s = true from qkb fun j hj => hi.2 j (by omega)]
    exact Le.refl _
 ·rw [Bool.not_eq_true] at hf
  rw [hf] at hft
  rw [hf]
  refine zK {} 300 Tryz.func16 (fun c0 rdb => ?_)
  (repeat' ((conv => whnf); first | refine Ob.auto ?_ | refine zC 300 (hft) ?_ | refine zG 300 (fun hg => (absurd hg (by decide) : Con Tryz.prog 14 [m.av, s.av] (.slc 4 0 (fun _ => [])))) ?_ | (apply zB <;> intro hb <;> (try simp [-zd] at hb) <;> try (exfalso; omega))))
  exact Le.refl _
theorem jsn (m : Md) (hM : ModOk m) (s : Stt) (hs : SSz s) : Con Tryz.prog 18 [m.av, s.av] (.bool (qg m s && badB m s)) := by
 have hft := qed m s hs
 have hsf := jrq m hM.ok s hs
 have hdd := jsm m hM s hs
 by_cases hf : qg m s = true
 ·rw [hf] at hft hsf hdd
  rw [hf, Bool.true_and]
  have e : (m.safe.isEmpty || (true && qln m s)) = qln m s := by
   rw [Bool.true_and]
   unfold qln
   cases m.safe with
   | nil => rfl
   | cons a b => rfl
  rw [e] at hsf
  rw [Bool.true_and] at hdd
  unfold badB
  refine zK {} 300 Tryz.func18 (fun c0 rdb => ?_)
  (repeat' ((conv => whnf); first | refine Ob.auto ?_ | refine zC 300 (hft) ?_ | refine zC 300 (hsf) ?_ | refine zG 300 (fun hg => hdd) ?_ | (apply zB <;> intro hb <;> (try simp [-zd] at hb) <;> try (exfalso; omega))))
  exact Le.refl _
 ·rw [Bool.not_eq_true] at hf
  rw [hf] at hft
  rw [hf]
  refine zK {} 300 Tryz.func18 (fun c0 rdb => ?_)
  (repeat' ((conv => whnf); first | refine Ob.auto ?_ | refine zC 300 (hft) ?_ | (apply zB <;> intro hb <;> (try simp [-zd] at hb) <;> try (exfalso; omega))))
  exact Le.refl _
end Go.Proofs.YtdoaagphhjggbaaGreat
end
section
namespace Go.Proofs.YtdoaagphhjggbaaGreat
open Go Go.Sx Go.RowKit Go.St
set_option maxRecDepth 100000
set_option maxHeartbeats 2000000
theorem qsd (m : Md) (hm : MOk m) : Con Tryz.prog 26 [m.av] (qq m).av := by
 have hsz := hm.sz
 refine zK {} 300 Tryz.func26 (fun c0 rdb => ?_)
 (repeat' ((conv => whnf); first | refine zO ?_ | refine Ob.auto ?_ | (refine Ob.intro (by ((refine ⟨by omega, by omega, by omega, ?_⟩; dsimp only; refine Int.le_trans (Int.mul_le_mul_of_nonneg_right (?_ : _ ≤ (4000001 : Int)) (Int.natCast_nonneg _)) (by decide +kernel); omega))) ?_) | (refine zR 300 ?_) | fail))
 ((conv => whnf); refine qj (fun _ => rfl) 300 1 (fun i : Nat => [(22, iv i)]) (fun i => [(9, .row [] 3 1 0 m.vars.length (fun j => [if j < i then iv (m.vars.getD j vr0).value else iv 0]))]) (fun i => i ≤ m.vars.length) (fun i => m.vars.length - i) (0) (by omega) qa ⟨qat (fun k _ => by kernel_rfl), trivial⟩ (fun _ => rfl) (by kernel_rfl) ?_; (conv => whnf))
 intro i hi
 (repeat' ((conv => whnf); first | refine Ob.auto ?_ | (apply zB <;> intro hb <;> (try simp [-List.getD_eq_getElem?_getD] at hb) <;> try (exfalso; omega))))
 ·((conv => whnf); refine ⟨i + 1, by omega, ⟨qa, qa⟩, ⟨qa, qa⟩, ?_⟩; (first | omega | (dsimp only; omega) | skip))
 ·obtain rfl : i = m.vars.length := by omega
  refine Le.agg ⟨Le.slc (by simp [qq]) (fun j hj => ?_), Le.slc (by simp [qq]) (fun j hj => ?_), Le.slcL (by simp [qq]) (fun j hj => ?_), Le.refl _, trivial⟩
  ·show _ = [iv ((qq m).at_.getD j 0)]
   rw [qq, qiu _ _ _ _ (by simpa using hj)]; kernel_rfl
  ·show [if j < m.vars.length then iv (m.vars.getD j vr0).value else iv 0] = [iv ((qq m).vars.getD j 0)]
   rw [if_pos (by simpa using hj), qq, qqy _ _ _ _ vr0 (by simpa using hj)]
  ·show LeL [.nils] [ints ((qq m).chans.getD j [])]
   rw [qq, qiu _ _ _ _ (by simpa using hj)]
   exact ⟨Le.nils _ _, trivial⟩
set_option maxHeartbeats 4000000
def qdq (m : Md) (l : List Mv) : Bool := decide (nF m l = l.length) && badB m (stN m l (nF m l))
theorem jff {m : Md} (hM : ModOk m) (h0 : qg m (qq m) = true) (l : List Mv) : qg m (stN m l (nF m l)) = true := qer hM h0 (qmb m l).2.1
theorem jso (m : Md) (hM : ModOk m) (h0 : qg m (qq m) = true) (l : List Mv) (hl : l.length ≤ 1000000) : Con Tryz.prog 62 [m.av, qcj l] (.bool (qdq m l)) := by
 have hst := qwu m hM h0 l hl
 have hbd := jrw m hM (stN m l (nF m l)) (jff hM h0 l)
 have hn := (qmb m l).1
 have hlen : (qbf m l).length = nF m l + 1 := by simp [qbf]
 have hget : (qbf m l).getD (nF m l) st0z = stN m l (nF m l) := by unfold qbf; rw [qqv _ _ _ _ (by omega)]
 unfold qdq
 generalize qbf m l = L at hst hlen hget
 refine zK {} 300 Tryz.func62 (fun c0 rdb => ?_)
 (repeat' ((conv => whnf); first | refine zC 300 (hst) ?_ | fail))
 have hbd' : Con Tryz.prog 19 [m.av, (L.getD ((L.length : Int) - 1).toNat st0z).av] (.bool (badB m (stN m l (nF m l)))) := by
  rw [show ((L.length : Int) - 1).toNat = nF m l by omega, hget]; exact hbd
 (repeat' ((conv => whnf); first | refine zA ?_ | refine Ob.auto ?_ | (refine CallZ.con (fun hg => hbd') qeo (by rfl) ?_) | (refine zQ 300 ?_) | fail))
 refine Le.of_eq (congrArg AV.bool ?_)
 congr 1
 rw [Bool.eq_iff_iff, beq_iff_eq, decide_eq_true_eq]
 omega
theorem qwv {m : Md} (hM : ModOk m) {l : List Mv} {i : Nat} (hf : qg m (stN m l i) = true) (hok : okN m l i = true) : Con Tryz.prog 22 [m.av, (stN m l i).av, (l.getD i {}).av] (.tup [(stN m l (i + 1)).av, .bool true]) := by
 have hdo := jfb m hM (stN m l i) (qbp hM hf) (l.getD i {})
 have hde : doB m (stN m l i) (l.getD i {}) = true := by unfold doB; rw [hf, Bool.true_and]; exact hok
 unfold qrs at hdo
 rw [hde, if_pos rfl] at hdo
 exact hdo
theorem qww {m : Md} (hM : ModOk m) {l : List Mv} {i : Nat} (hf : qg m (stN m l i) = true) (hok : okN m l i = false) : Con Tryz.prog 22 [m.av, (stN m l i).av, (l.getD i {}).av] (.tup [st0z.av, .bool false]) := by
 have hdo := jfb m hM (stN m l i) (qbp hM hf) (l.getD i {})
 have hde : doB m (stN m l i) (l.getD i {}) = false := by unfold doB; rw [hf, Bool.true_and]; exact hok
 unfold qrs at hdo
 rw [hde, if_neg (by decide)] at hdo
 exact hdo
theorem jsp (i : Int) (s t : Stt) : Con Tryz.prog 60 [iv i, s.av, t.av] (.tup []) := by
 refine zK {} 300 Tryz.func60 (fun c0 rdb => ?_)
 (repeat' ((conv => whnf); first | refine Ob.auto ?_ | fail))
 exact Le.refl _
theorem jfg (m : Md) (hM : ModOk m) (h0 : qg m (qq m) = true) (l : List Mv) (hl : l.length ≤ 1000000) : Con Tryz.prog 56 [m.av, qcj l, .fn 60 []] (.tup [(stN m l (nF m l)).av, iv (nF m l)]) := by
 refine zK {} 300 Tryz.func56 (fun c0 rdb => ?_)
 (repeat' ((conv => whnf); first | refine zC 300 (qsd m hM.ok) ?_ | fail))
 ((conv => whnf); refine qj (fun _ => rfl) 300 1 (fun i : Nat => [(17, iv i)]) (fun i => [(2, .box 34 (stN m l i).cells)]) (fun i => i ≤ l.length ∧ ∀ j, j < i → okN m l j = true) (fun i => l.length - i) (0) (⟨Nat.zero_le _, fun j hj => absurd hj (Nat.not_lt_zero j)⟩) qa qa (fun _ => rfl) (by kernel_rfl) ?_; (conv => whnf))
 rintro i ⟨hi, hp⟩
 have hf := qer hM h0 hp
 by_cases hok : okN m l i = true
 ·have hdo := qwv hM hf hok
  (repeat' ((conv => whnf); first | refine Ob.auto ?_ | refine zC 300 (hdo) ?_ | refine zC 300 (jsp i (stN m l i) (stN m l (i + 1))) ?_ | (apply zB <;> intro hb <;> (try simp [-List.getD_eq_getElem?_getD] at hb) <;> try (exfalso; omega))))
  ·((conv => whnf); refine ⟨i + 1, ⟨by omega, jm hp hok⟩, ⟨qa, qa⟩, ⟨qa, qa⟩, ?_⟩; (first | omega | (dsimp only; omega) | skip))
  ·obtain rfl : i = l.length := by omega
   rw [qfj hi hp (.inl rfl)]; exact Le.refl _
 ·have hdo := qww hM hf (Bool.not_eq_true _ ▸ hok)
  (repeat' ((conv => whnf); first | refine Ob.auto ?_ | refine zC 300 (hdo) ?_ | (apply zB <;> intro hb <;> (try simp [-List.getD_eq_getElem?_getD] at hb) <;> try (exfalso; omega))))
  ·rw [qfj hi hp (.inr (Bool.not_eq_true _ ▸ hok))]; exact Le.refl _
  ·obtain rfl : i = l.length := by omega
   rw [qfj hi hp (.inl rfl)]; exact Le.refl _
theorem jsq (m : Md) (hM : ModOk m) (h0 : qg m (qq m) = true) (l : List Mv) (hl : l.length ≤ 1000000) : Con Tryz.prog 33 [m.av, qcj l] (.tup [(stN m l (nF m l)).av, iv (nF m l)]) := by
 refine zK {} 300 Tryz.func33 (fun c0 rdb => ?_)
 (repeat' ((conv => whnf); first | refine Ob.auto ?_ | refine zC 300 (jfg m hM h0 l hl) ?_ | fail))
 exact Le.refl _
theorem jsr (m : Md) (hM : ModOk m) (h0 : qg m (qq m) = true) (l : List Mv) (hl : l.length ≤ 1000000) : Con Tryz.prog 34 [m.av, qcj l] (.bool (qdq m l)) := by
 have hf := jff hM h0 l
 have hbd := jsn m hM (stN m l (nF m l)) (qbp hM hf)
 rw [hf, Bool.true_and] at hbd
 refine zK {} 300 Tryz.func34 (fun c0 rdb => ?_)
 (repeat' ((conv => whnf); first | refine Ob.auto ?_ | refine zC 300 (jfg m hM h0 l hl) ?_ | refine zG 300 (fun hg => hbd) ?_ | fail))
 refine Le.of_eq (congrArg AV.bool ?_)
 unfold qdq
 congr 1
 rw [Bool.eq_iff_iff, beq_iff_eq, decide_eq_true_eq]
 omega
end Go.Proofs.YtdoaagphhjggbaaGreat
end
section
namespace Go.Proofs.YtdoaagphhjggbaaGreat
open List renaming getD_eq_getElem?_getD → zd
open Go Go.Sx Go.RowKit Go.St
set_option maxRecDepth 100000
set_option maxHeartbeats 4000000
theorem jss (s : Stt) (hs : SSz s) : Con Tryz.prog 51 [s.av] s.av := by
 have ha := hs.a
 have hv := hs.v
 have hc := hs.c
 have hl := hs.l
 refine zK {} 300 Tryz.func51 (fun c0 rdb => ?_)
 ((conv => whnf); refine qax (fun _ => rfl) (by kernel_rfl) 300 [.new [ints s.at_] (.own 0 0 0 s.at_.length) [(0, .row [] 3 1 0 s.at_.length (encL (fun n => [iv n]) 0 s.at_))] 1, .new [ints s.vars] (.own 0 0 0 s.vars.length) [(0, .row [] 3 1 0 s.vars.length (encL (fun n => [iv n]) 0 s.vars))] 1] (by kernel_rfl) ?_)
 (repeat' ((conv => whnf); first | refine Ob.auto ?_ | (refine Ob.intro (by (first | (refine ⟨by omega, by omega, by omega, ?_⟩; dsimp only; refine Int.le_trans (Int.mul_le_mul_of_nonneg_right (?_ : _ ≤ (4000001 : Int)) (Int.natCast_nonneg _)) (by decide +kernel); omega) | exact ⟨qkq s.at_ hs.a, by rfl, LeL.refl _, by kernel_rfl, by kernel_rfl, by exact qb rfl⟩ | exact ⟨qkq s.vars hs.v, by rfl, LeL.refl _, by kernel_rfl, by kernel_rfl, by exact qb rfl⟩)) ?_) | fail))
 ((conv => whnf); refine qj (fun _ => rfl) 300 1 (fun i : Nat => [(22, iv i)]) (fun i => [(13, .row [] 23 1 0 s.chans.length (fun k => [if k < i then ints (s.chans.getD k []) else .nils]))]) (fun i => i ≤ s.chans.length) (fun i => s.chans.length - i) (0) (by omega) qa ⟨qat (fun k _ => by rw [if_neg (Nat.not_lt_zero k)]; rfl), trivial⟩ (fun _ => rfl) (by kernel_rfl) ?_; (conv => whnf))
 intro i hi
 (repeat' ((conv => whnf); first | refine Ob.auto ?_ | (apply zB <;> intro hb <;> (try simp [-zd] at hb) <;> try (exfalso; omega))))
 ·((conv => whnf); refine qax (fun _ => rfl) (by kernel_rfl) 300 [.con (ints (s.chans.getD i []))] (by kernel_rfl) ?_)
  (repeat' ((conv => whnf); first | refine Ob.auto ?_ | (refine Ob.intro (by (first | exact ⟨by omega, by omega⟩ | exact ⟨_, jes (s.chans.getD i []) (hl _ (qi _ _ _ (by omega))), by rfl, LeL.refl _⟩)) ?_) | fail))
  ((conv => whnf); refine ⟨i + 1, by omega, ⟨qa, qa⟩, ⟨qa, qa⟩, ?_⟩; (first | omega | (dsimp only; omega) | skip))
 ·obtain rfl : i = s.chans.length := by omega
  exact Le.agg ⟨Le.refl _, Le.refl _, Le.slcL rfl (fun k hk => LeL.of_eq (congrArg (fun x : AV => [x]) (if_pos hk))), Le.refl _, trivial⟩
def boxT (n : Nat) : SO := .box 59 [.own 1 0 0 n]
def rowT (l : List Stt) : SO := .row [] 34 4 0 l.length (encL Stt.cells st0z l)
theorem jst (i : Int) (s t : Stt) (hs : SSz t) (L : List Stt) (hL : L.length ≤ 1000000) : Trip Tryz.prog 57 [iv i, s.av, t.av, .ptr 0 0] [boxT L.length, rowT L] (.tup []) [(0, boxT (L.length + 1)), (1, rowT (L ++ [t]))] 2 := by
 unfold boxT rowT
 refine zL {lit := true} 300 Tryz.func57 (fun c0 rdb mpb => ?_)
 ((conv => whnf); refine qax (fun _ => rfl) (by kernel_rfl) 300 [.con t.av] (by kernel_rfl) ?_)
 (repeat' ((conv => whnf); first | refine Ob.auto ?_ | (refine Ob.intro (by (first | exact ⟨_, jss t hs, by rfl, LeL.refl _⟩ | (refine ⟨by omega, by omega, by omega, ?_⟩; dsimp only; refine Int.le_trans (Int.mul_le_mul_of_nonneg_right (?_ : _ ≤ (4000001 : Int)) (Int.natCast_nonneg _)) (by decide +kernel); omega))) ?_) | fail))
 exact ⟨Le.refl _, ⟨rfl, Le.refl _, trivial⟩, qes Stt.cells st0z rfl rfl, trivial⟩
theorem jsu (m : Md) (hM : ModOk m) (h0 : qg m (qq m) = true) (l : List Mv) (hl : l.length ≤ 1000000) : Trip Tryz.prog 56 [m.av, qcj l, .fn 57 [.ptr 0 0]] [boxT 1, rowT [qq m]] (.tup [(stN m l (nF m l)).av, iv (nF m l)]) [(0, boxT (nF m l + 1)), (1, rowT (qbf m l))] 2 := by
 unfold boxT rowT
 refine zL {} 300 Tryz.func56 (fun c0 rdb mpb => ?_)
 (repeat' ((conv => whnf); first | refine zC 300 (qsd m hM.ok) ?_ | fail))
 ((conv => whnf); refine qj (fun _ => rfl) 300 1 (fun i : Nat => [(17, iv i)]) (fun i => [(4, .box 34 (stN m l i).cells), (0, .box 59 [.own 1 0 0 ((List.range (i + 1)).map (stN m l)).length]), (1, .row [] 34 4 0 ((List.range (i + 1)).map (stN m l)).length (encL Stt.cells st0z ((List.range (i + 1)).map (stN m l))))]) (fun i => i ≤ l.length ∧ ∀ j, j < i → okN m l j = true) (fun i => l.length - i) (0) (⟨Nat.zero_le _, fun j hj => absurd hj (Nat.not_lt_zero j)⟩) qa qa (fun _ => rfl) (by kernel_rfl) ?_; (conv => whnf))
 rintro i ⟨hi, hp⟩
 have hf := qer hM h0 hp
 have hlen : ((List.range (i + 1)).map (stN m l)).length = i + 1 := by simp
 have hsn : (List.range (i + 1)).map (stN m l) ++ [stN m l (i + 1)] = (List.range (i + 1 + 1)).map (stN m l) := by rw [List.range_succ (n := i + 1), List.map_append]; rfl
 have hst : nF m l = i → (List.range (i + 1)).map (stN m l) = qbf m l := fun h => by unfold qbf; rw [h]
 generalize (List.range (i + 1)).map (stN m l) = L at hlen hsn hst ⊢
 by_cases hok : okN m l i = true
 ·have hdo := qwv hM hf hok
  have hf1 := qer hM h0 (jm hp hok)
  (repeat' ((conv => whnf); first | refine Ob.auto ?_ | refine zC 300 (hdo) ?_ | (apply zB <;> intro hb <;> (try simp [-zd] at hb) <;> try (exfalso; omega))))
  ·((conv => whnf); refine zT 300 [0, 1] (jst i (stN m l i) (stN m l (i + 1)) (qbp hM hf1) L (by omega)) qa ?_)
   (repeat' ((conv => whnf); first | refine Ob.auto ?_ | fail))
   ((conv => whnf); refine ⟨i + 1, ⟨by omega, jm hp hok⟩, ⟨qa, ⟨⟨rfl, Le.refl _, Le.refl _, Le.refl _, Le.refl _, trivial⟩, ⟨rfl, qge hsn 1, trivial⟩, qee Stt.cells st0z hsn, trivial⟩⟩, ⟨qa, qa⟩, ?_⟩; (first | omega | (dsimp only; omega) | skip))
  ·obtain rfl : i = l.length := by omega
   have hn : nF m l = l.length := qfj hi hp (.inl rfl)
   rw [← hst hn, hn]
   exact ⟨Le.tup ⟨Le.refl _, Le.refl _, trivial⟩, ⟨rfl, Le.of_eq (by rw [hlen]), trivial⟩, SoLe.refl _, trivial⟩
 ·have hdo := qww hM hf (Bool.not_eq_true _ ▸ hok)
  (repeat' ((conv => whnf); first | refine Ob.auto ?_ | refine zC 300 (hdo) ?_ | (apply zB <;> intro hb <;> (try simp [-zd] at hb) <;> try (exfalso; omega))))
  ·have hn : nF m l = i := qfj hi hp (.inr (Bool.not_eq_true _ ▸ hok))
   rw [← hst hn, hn]
   exact ⟨Le.tup ⟨Le.refl _, Le.refl _, trivial⟩, ⟨rfl, Le.of_eq (by rw [hlen]), trivial⟩, SoLe.refl _, trivial⟩
  ·obtain rfl : i = l.length := by omega
   have hn : nF m l = l.length := qfj hi hp (.inl rfl)
   rw [← hst hn, hn]
   exact ⟨Le.tup ⟨Le.refl _, Le.refl _, trivial⟩, ⟨rfl, Le.of_eq (by rw [hlen]), trivial⟩, SoLe.refl _, trivial⟩
theorem jsv (m : Md) (hM : ModOk m) (h0 : qg m (qq m) = true) (l : List Mv) (hl : l.length ≤ 1000000) : Con Tryz.prog 30 [m.av, qcj l] (qwl (qbf m l)) := by
 refine zK {lit := true} 300 Tryz.func30 (fun c0 rdb => ?_)
 (repeat' ((conv => whnf); first | refine zC 300 (qsd m hM.ok) ?_ | fail))
 ((conv => whnf); refine zT 300 [2, 1] (jsu m hM h0 l hl) (?_) ?_)
 ·exact ⟨⟨rfl, Le.refl _, trivial⟩, ⟨⟨rfl, rfl, rfl⟩, rfl, rfl, fun k hk => match k, hk with | 0, _ => LeL.refl _ | k + 1, hk => absurd (show k + 1 < 1 from hk) (by omega)⟩, trivial⟩
 have hlen : (qbf m l).length = nF m l + 1 := by simp [qbf]
 (repeat' ((conv => whnf); first | refine Ob.intro ?_ ?_ | fail))
 ·exact ⟨trivial, ⟨rfl, hlen.symm⟩, trivial⟩
 ·exact Le.slc hlen.symm (fun _ _ => rfl)
end Go.Proofs.YtdoaagphhjggbaaGreat
end
section
namespace Go.St
open Go Go.Sx
def jz (s : Stt) (c : Int) : Int := (s.chans.getD c.toNat []).getD 0 0
def qdg (s : Stt) (c : Int) : Int := (s.chans.getD c.toNat []).getD ((s.chans.getD c.toNat []).length - 1) 0
def edOf (m : Md) (v : Mv) : Ed := (edgesOf m v.proc.toNat).getD v.edge.toNat ed0
def evOf (m : Md) (s t : Stt) (i : Nat) (v : Mv) (E : List Ev) : Option Ev :=
 if v.kind = 1 then some ⟨2, i, -1, v.chn, jz s v.chn, jy E v.chn⟩
 else if v.kind = 2 then some ⟨3, i, -1, v.chn, jz s v.chn, jy E v.chn⟩
 else if (edOf m v).act = 2 then some ⟨0, i, v.proc, (edOf m v).chn, qdg t (edOf m v).chn, -1⟩
 else if (edOf m v).act = 3 then some ⟨1, i, v.proc, (edOf m v).chn, jz s (edOf m v).chn, jy E (edOf m v).chn⟩
 else none
def evN (m : Md) (l : List Mv) : Nat → List Ev
 | 0 => []
 | i + 1 => evN m l i ++ (evOf m (stN m l i) (stN m l (i + 1)) i (l.getD i {}) (evN m l i)).toList
def qbv (m : Md) (l : List Mv) : List Ev := evN m l (nF m l)
theorem qow (m : Md) (l : List Mv) : ∀ i, (evN m l i).length ≤ i
 | 0 => Nat.le_refl _
 | i + 1 => by
  have := qow m l i
  unfold evN
  rw [List.length_append]
  have : (evOf m (stN m l i) (stN m l (i + 1)) i (l.getD i {}) (evN m l i)).toList.length ≤ 1 := by
   cases evOf m (stN m l i) (stN m l (i + 1)) i (l.getD i {}) (evN m l i) <;> simp
  omega
def Waits (m : Md) (s : Stt) (E : List Ev) : Prop := ∀ c : Nat, c < m.chans.length → jg E c ≤ (jx E c).length ∧ (waitOf E c).length = (s.chans.getD c []).length
theorem qox {E : List Ev} {e : Ev} {c : Int} (hp : qce c e = true) (hg : jg E c ≤ (jx E c).length) : jg (E ++ [e]) c = jg E c ∧ jg (E ++ [e]) c ≤ (jx (E ++ [e]) c).length ∧ waitOf (E ++ [e]) c = waitOf E c ++ [E.length] := by
 have ht : isTake c e = false := by
  unfold qce at hp
  unfold isTake
  have := of_decide_eq_true hp
  exact decide_eq_false (by omega)
 have h1 : jg (E ++ [e]) c = jg E c := by rw [qru, ht]; rfl
 have h2 : jx (E ++ [e]) c = jx E c ++ [E.length] := by rw [qrt, if_pos hp]
 refine ⟨h1, by rw [h1, h2, List.length_append]; omega, ?_⟩
 unfold waitOf
 rw [h1, h2, List.drop_append_of_le_length hg]
theorem qse {E : List Ev} {e : Ev} {c : Int} (ht : isTake c e = true) (hg : jg E c ≤ (jx E c).length) (hw : 0 < (waitOf E c).length) : jg (E ++ [e]) c = jg E c + 1 ∧ jg (E ++ [e]) c ≤ (jx (E ++ [e]) c).length ∧ waitOf (E ++ [e]) c = (waitOf E c).drop 1 := by
 have hp : qce c e = false := by
  unfold isTake at ht
  unfold qce
  have := of_decide_eq_true ht
  exact decide_eq_false (by omega)
 have h1 : jg (E ++ [e]) c = jg E c + 1 := by rw [qru, ht]; rfl
 have h2 : jx (E ++ [e]) c = jx E c := by rw [qrt, hp]; simp
 unfold waitOf at hw
 rw [List.length_drop] at hw
 refine ⟨h1, by rw [h1, h2]; omega, ?_⟩
 unfold waitOf
 rw [h1, h2, List.drop_drop]
theorem qef {E : List Ev} {e : Ev} {c : Int} (h : e.ch ≠ c) : jg (E ++ [e]) c = jg E c ∧ jx (E ++ [e]) c = jx E c ∧ waitOf (E ++ [e]) c = waitOf E c := by
 have hp : qce c e = false := decide_eq_false (fun k => h k.1)
 have ht : isTake c e = false := decide_eq_false (fun k => h k.1)
 have h1 : jg (E ++ [e]) c = jg E c := by rw [qru, ht]; rfl
 have h2 : jx (E ++ [e]) c = jx E c := by rw [qrt, hp]; simp
 exact ⟨h1, h2, by unfold waitOf; rw [h1, h2]⟩
end Go.St
end
