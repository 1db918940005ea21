/- Some texts of the library, one behind the other. -/
import Derived.Test.YtdoaagphhjggbaaGreatQ30
import Derived.Test.YtdoaagphhjggbaaGreatQ40
import Derived.Test.YtdoaagphhjggbaaGreatQ39
import Derived.Test.YtdoaagphhjggbaaGreatQ34
import Derived.Test.YtdoaagphhjggbaaGreatQ28
import Derived.Test.YtdoaagphhjggbaaGreatQ38
import Derived.Test.YtdoaagphhjggbaaGreatQ32
import Derived.Test.YtdoaagphhjggbaaGreatQ31
import Derived.Test.YtdoaagphhjggbaaGreatQ2
section
namespace Go.Proofs.YtdoaagphhjggbaaGreat
open Go Go.Sx Go.RowKit Go.St
set_option maxRecDepth 100000
set_option maxHeartbeats 8000000
theorem jsh (l : List Nd) (hl : l.length ≤ 9223372036854775807) (hz : ∀ n ∈ l, NdSz n) : Con Tryz.prog 28 [jp l] (.tup [(qez l).1.av, .bool (qez l).2]) := by
 have hm : Tree l → Con Tryz.prog 37 [jp l] (.tup [(if (qbu l).1 = 0 then qex l else mdZ).av, .bool (decide ((qbu l).1 = 0))]) := fun ht => by
  by_cases h : (qbu l).1 = 0
  ·rw [if_pos h, decide_eq_true h]; exact jdc l ht h
  ·rw [if_neg h, decide_eq_false h]; exact jpz l ht h
 refine zK {} 300 Tryz.func28 (fun c0 rdb => ?_)
 (repeat' ((conv => whnf); first | refine Ob.auto ?_ | refine zC 300 (jou l hl) ?_ | refine zG 300 (fun hg => jot l hl hz) ?_ | (apply zB <;> intro hb <;> (try simp [-List.getD_eq_getElem?_getD] at hb) <;> try (exfalso; omega))))
 ·have e : qez l = (mdZ, false) := if_neg fun h => by
   rcases hb with hb | hb
   ·omega
   ·rw [hb] at h; simp at h
  rw [e]
  exact Le.tup ⟨jdd, Le.refl _, trivial⟩
 ·((conv => whnf); refine qef (fun _ => rfl) 300 (hm (qqx hb.2)) (by rfl) leA (by kernel_rfl) ?_)
  (repeat' ((conv => whnf); first | refine Ob.auto ?_ | fail))
  have e : qez l = (if (qbu l).1 = 0 then qex l else mdZ, decide ((qbu l).1 = 0)) := by
   unfold qez
   by_cases h : (qbu l).1 = 0
   ·rw [if_pos ⟨hb, h⟩, if_pos h, decide_eq_true h]
   ·rw [if_neg (fun g => h g.2), if_neg h, decide_eq_false h]
  rw [e]
  exact Le.refl _
set_option maxHeartbeats 2000000
def jes : List Mv := [⟨0, 0, 0, 0⟩, ⟨0, 0, 1, 0⟩]
theorem jsi : qn model17 (qx model17) = true := by decide +kernel
theorem jsj : qcf model17 jes = [⟨0, 0, 0, 0, 1, -1⟩, ⟨1, 1, 0, 0, 1, 0⟩] := by decide +kernel
theorem jsk : Con Tryz.prog 27 [] (.bool true) := by
 have h1 := qwf model17 jqc jsi jes (by decide)
 rw [jsj] at h1
 refine zK {} 300 Tryz.func27 (fun c0 rdb => ?_)
 (repeat' ((conv => whnf); first | refine zC 300 (jqa) ?_ | refine zC 300 (jqb) ?_ | fail))
 ((conv => whnf); refine qef (fun _ => rfl) 300 h1 (by rfl) ⟨Le.refl _, Le.slc rfl (fun j hj => ?_), trivial⟩ (by kernel_rfl) ?_)
 ·have hj : j < 2 := hj
  match j, hj with
  | 0, _ => rfl
  | 1, _ => rfl
 (repeat' ((conv => whnf); first | refine Ob.auto ?_ | fail))
 exact Le.of_eq (congrArg AV.bool (by kernel_rfl))
set_option maxHeartbeats 4000000
theorem jsl {a b : Ev} (h : a.kind = b.kind ∧ a.mv = b.mv ∧ a.prc = b.prc ∧ a.ch = b.ch ∧ a.msg = b.msg ∧ a.frm = b.frm) : a = b := by
 cases a; cases b; simp_all
theorem jsm (a b : List Ev) (ha : a.length ≤ 1000000) : Con Tryz.prog 32 [evsV a, evsV b] (.bool (decide (a = b))) := by
 refine zK {} 300 Tryz.func32 (fun c0 rdb => ?_)
 (repeat' ((conv => whnf); first | refine Ob.auto ?_ | (apply zB <;> intro hb <;> (try simp [-List.getD_eq_getElem?_getD] at hb) <;> try (exfalso; omega))))
 ·refine Le.of_eq (congrArg AV.bool ?_)
  exact (decide_eq_false (fun h => by subst h; simp at hb)).symm
 ·((conv => whnf); refine qo (fun _ => rfl) 300 1 (fun i : Nat => [(5, iv i)]) (fun _ => []) (fun i => i ≤ a.length ∧ ∀ j, j < i → a.getD j {} = b.getD j {}) (fun i => a.length - i) (0) (⟨by omega, fun j hj => absurd hj (Nat.not_lt_zero j)⟩) qa qa (fun _ => rfl) (by kernel_rfl) ?_; (conv => whnf))
  intro i hi
  (repeat' ((conv => whnf); first | refine zO ?_ | refine Ob.auto ?_ | refine zD 300 ?_ | (apply zB <;> intro hb <;> (try simp [-List.getD_eq_getElem?_getD] at hb) <;> try (exfalso; omega))))
  ·refine Le.of_eq (congrArg AV.bool ?_)
   exact (decide_eq_false (fun h => by subst h; simp at hb)).symm
  ·((conv => whnf); refine ⟨i + 1, ⟨by omega, jx hi.2 (jsl hb)⟩, ⟨qa, qa⟩, ⟨qa, qa⟩, ?_⟩; (first | omega | (dsimp only; omega) | skip))
  ·refine Le.of_eq (congrArg AV.bool ?_)
   exact (decide_eq_true (qtu {} (by omega) (fun j hj => hi.2 j (by omega)))).symm

end Go.Proofs.YtdoaagphhjggbaaGreat
end
section
namespace Go.Proofs.YtdoaagphhjggbaaGreat
open List renaming getD_eq_getElem?_getD → zd
open Go Go.Sx Go.RowKit Go.St
set_option maxRecDepth 100000
set_option maxHeartbeats 2000000
theorem qwg (a b : List Int) (ha : a.length ≤ 1000000) : Con Tryz.prog 53 [ints a, ints b] (.bool (a == b)) := by
 refine zK {} 300 Tryz.func53 (fun c0 rdb => ?_)
 (repeat' ((conv => whnf); first | refine Ob.auto ?_ | (apply zB <;> intro hb <;> (try simp [-zd] at hb) <;> try (exfalso; omega))))
 ·refine Le.of_eq (congrArg AV.bool ?_)
  exact (beq_eq_false_iff_ne.2 (fun h => by subst h; simp at hb)).symm
 ·((conv => whnf); refine qo (fun _ => rfl) 300 1 (fun i : Nat => [(5, iv i)]) (fun _ => []) (fun i => i ≤ a.length ∧ ∀ j, j < i → a.getD j 0 = b.getD j 0) (fun i => a.length - i) (0) (⟨by omega, fun j hj => absurd hj (Nat.not_lt_zero j)⟩) qa qa (fun _ => rfl) (by kernel_rfl) ?_; (conv => whnf))
  intro i hi
  (repeat' ((conv => whnf); first | refine zO ?_ | refine Ob.auto ?_ | refine zD 300 ?_ | (apply zB <;> intro hb <;> (try simp [-zd] at hb) <;> try (exfalso; omega))))
  ·refine Le.of_eq (congrArg AV.bool ?_)
   exact (beq_eq_false_iff_ne.2 (fun h => by subst h; simp at hb)).symm
  ·((conv => whnf); refine ⟨i + 1, ⟨by omega, jx hi.2 hb⟩, ⟨qa, qa⟩, ⟨qa, qa⟩, ?_⟩; (first | omega | (dsimp only; omega) | skip))
  ·refine Le.of_eq (congrArg AV.bool ?_)
   exact (beq_iff_eq.2 (qtu 0 (by omega) (fun j hj => hi.2 j (by omega)))).symm
theorem jsn (a b : Stt) (ha : SSz a) : Con Tryz.prog 23 [a.av, b.av] (.bool (qlj a b)) := by
 have h1 := ha.a
 have h2 := ha.v
 have h3 := ha.c
 have h4 := ha.l
 refine zK {} 300 Tryz.func23 (fun c0 rdb => ?_)
 (repeat' ((conv => whnf); first | refine Ob.auto ?_ | refine zC 300 (qwg a.at_ b.at_ h1) ?_ | refine zG 300 (fun hg => qwg a.vars b.vars h2) ?_ | (apply zB <;> intro hb <;> (try simp [-zd] at hb) <;> try (exfalso; omega))))
 ·refine Le.of_eq (congrArg AV.bool ?_)
  refine Eq.symm ?_
  unfold qlj
  rw [Bool.eq_false_iff]
  intro h
  simp only [Bool.and_eq_true, beq_iff_eq] at h
  obtain ⟨⟨⟨e1, e2⟩, e3⟩, e4⟩ := h
  rw [e3] at hb
  simp [e1, e2, e4] at hb
 ·obtain ⟨⟨⟨e1, e2⟩, e3⟩, e4⟩ := hb
  ((conv => whnf); refine qo (fun _ => rfl) 300 1 (fun i : Nat => [(5, iv i)]) (fun _ => []) (fun i => i ≤ a.chans.length ∧ ∀ j, j < i → a.chans.getD j [] = b.chans.getD j []) (fun i => a.chans.length - i) (0) (⟨Nat.zero_le _, fun j hj => absurd hj (Nat.not_lt_zero j)⟩) qa qa (fun _ => rfl) (by kernel_rfl) ?_; (conv => whnf))
  intro i hi
  have hli : i < a.chans.length → _ := fun h => h4 _ (qk a.chans i [] h)
  (repeat' ((conv => whnf); first | refine zA ?_ | refine Ob.auto ?_ | (refine CallY.con (qwg (a.chans.getD i []) (b.chans.getD i []) (hli (by omega))) (by rfl) leA ?_) | (refine zQ 300 ?_) | (apply zB <;> intro hb <;> (try simp [-zd] at hb) <;> try (exfalso; omega))))
  ·refine Le.of_eq (congrArg AV.bool ?_)
   refine Eq.symm ?_
   unfold qlj
   rw [Bool.eq_false_iff]
   intro h
   simp only [Bool.and_eq_true, beq_iff_eq] at h
   rw [h.1.2] at hb
   exact hb rfl
  ·((conv => whnf); refine ⟨i + 1, ⟨by omega, jx hi.2 hb⟩, ⟨qa, qa⟩, ⟨qa, qa⟩, ?_⟩; (first | omega | (dsimp only; omega) | skip))
  ·refine Le.of_eq (congrArg AV.bool ?_)
   unfold qlj
   rw [e1, e2, e4, qtu [] (by omega) (fun j hj => hi.2 j (by omega))]
   simp
end Go.Proofs.YtdoaagphhjggbaaGreat
end
section
namespace Go.Proofs.YtdoaagphhjggbaaGreat
open Go Go.Sx Go.RowKit Go.St
set_option maxRecDepth 100000
set_option maxHeartbeats 4000000
theorem jso (s : Stt) : qlj s s = true := by simp [qlj]
end Go.Proofs.YtdoaagphhjggbaaGreat
end
section
namespace Go.St
open List renaming getD_eq_getElem?_getD → zd
open Go Go.Sx
theorem jet {α : Type} (l : List α) (k i : Nat) (d : α) (h : i < k) : (l.take k).getD i d = l.getD i d := by
 rw [zd, zd, List.getElem?_take, if_pos h]
theorem qoo {m : Md} {l l' : List Mv} : ∀ {i : Nat}, (∀ j, j < i → l.getD j {} = l'.getD j {}) → stN m l i = stN m l' i
 | 0, _ => rfl
 | i + 1, h => by
  unfold stN
  rw [qoo (i := i) (fun j hj => h j (by omega)), h i (by omega)]
theorem jsp {m : Md} {l l' : List Mv} {j : Nat} (h : ∀ k, k ≤ j → l.getD k {} = l'.getD k {}) : okN m l j = okN m l' j := by
 unfold okN
 rw [qoo (fun k hk => h k (by omega)), h j (Nat.le_refl _)]
theorem jeu {m : Md} {l l' : List Mv} : ∀ {i : Nat}, (∀ j, j < i → l.getD j {} = l'.getD j {}) → evN m l i = evN m l' i
 | 0, _ => rfl
 | i + 1, h => by
  unfold evN
  rw [jeu (i := i) (fun j hj => h j (by omega)), qoo (i := i) (fun j hj => h j (by omega)), qoo (i := i + 1) h, h i (by omega)]
theorem jev (m : Md) (l : List Mv) (i : Nat) : ∀ d, ∃ r, evN m l (i + d) = evN m l i ++ r
 | 0 => ⟨[], (List.append_nil _).symm⟩
 | d + 1 => by
  obtain ⟨r, hr⟩ := jev m l i d
  refine ⟨r ++ (evOf m (stN m l (i + d)) (stN m l (i + d + 1)) (i + d : Nat) (l.getD (i + d) {}) (evN m l (i + d))).toList, ?_⟩
  rw [← List.append_assoc, ← hr]; rfl
def qea (c : Int) (n : Nat) : Int := if c.tmod n < 0 then c.tmod n + n else c.tmod n
theorem jew {c : Int} {n : Nat} (h : 0 < n) : 0 ≤ qea c n ∧ qea c n < n := by
 have h1 := Int.tmod_lt_of_pos c (show (0 : Int) < n by omega)
 have h2 := Int.lt_tmod_of_pos c (show (0 : Int) < n by omega)
 unfold qea
 split <;> omega
def runL (m : Md) : Stt → List Int → List Mv
 | _, [] => []
 | s, c :: cs => if (qao m s).length = 0 then [] else (qao m s).getD (qea c (qao m s).length).toNat {} :: runL m (qt m s ((qao m s).getD (qea c (qao m s).length).toNat {})) cs
def goL (m : Md) (s : Stt) (l : List Mv) (i : Nat) : Stt := (l.take i).foldl (qt m) s
theorem qwh (m : Md) (l : List Mv) : ∀ i, i ≤ l.length → stN m l i = goL m (qx m) l i
 | 0, _ => rfl
 | i + 1, h => by
  unfold stN goL
  rw [qwh m l i (by omega), List.take_add_one, List.getElem?_eq_getElem (by omega), Option.toList, List.foldl_append, zd, List.getElem?_eq_getElem (by omega)]
  rfl
theorem qrk (m : Md) : ∀ (cs : List Int) (s : Stt), (runL m s cs).length ≤ cs.length ∧
  (∀ i, i < (runL m s cs).length → 0 < (qao m (goL m s (runL m s cs) i)).length ∧ (runL m s cs).getD i {} = (qao m (goL m s (runL m s cs) i)).getD (qea (cs.getD i 0) (qao m (goL m s (runL m s cs) i)).length).toNat {}) ∧
  ((runL m s cs).length < cs.length → (qao m (goL m s (runL m s cs) (runL m s cs).length)).length = 0)
 | [], s => ⟨Nat.le_refl _, fun i hi => absurd hi (Nat.not_lt_zero i), fun h => absurd h (Nat.lt_irrefl _)⟩
 | c :: cs, s => by
  by_cases h : (qao m s).length = 0
  ·have e : runL m s (c :: cs) = [] := if_pos h
   rw [e]
   exact ⟨Nat.zero_le _, fun i hi => absurd hi (Nat.not_lt_zero i), fun _ => h⟩
  ·have e : runL m s (c :: cs) = (qao m s).getD (qea c (qao m s).length).toNat {} :: runL m (qt m s ((qao m s).getD (qea c (qao m s).length).toNat {})) cs := if_neg h
   obtain ⟨h1, h2, h3⟩ := qrk m cs (qt m s ((qao m s).getD (qea c (qao m s).length).toNat {}))
   rw [e]
   refine ⟨by simp only [List.length_cons]; omega, fun i hi => ?_, fun hl => ?_⟩
   ·cases i with
    | zero => exact ⟨Nat.pos_of_ne_zero h, rfl⟩
    | succ i =>
     simp only [List.length_cons] at hi
     exact h2 i (by omega)
   ·simp only [List.length_cons] at hl
    exact h3 (by omega)
def runF (m : Md) (cs : List Int) : List Mv := runL m (qx m) cs
theorem jex (m : Md) (cs : List Int) : (runF m cs).length ≤ cs.length := (qrk m cs (qx m)).1
theorem jey {m : Md} {cs : List Int} {i : Nat} (h : i < (runF m cs).length) : 0 < (qao m (stN m (runF m cs) i)).length ∧ (runF m cs).getD i {} = (qao m (stN m (runF m cs) i)).getD (qea (cs.getD i 0) (qao m (stN m (runF m cs) i)).length).toNat {} := by
 rw [qwh m (runF m cs) i (by omega)]
 exact (qrk m cs (qx m)).2.1 i h
theorem jsq {m : Md} {cs : List Int} (h : (runF m cs).length < cs.length) : (qao m (stN m (runF m cs) (runF m cs).length)).length = 0 := by
 rw [qwh m (runF m cs) _ (Nat.le_refl _)]
 exact (qrk m cs (qx m)).2.2 h
theorem qrl {m : Md} {cs : List Int} {i : Nat} (h : i < (runF m cs).length) : okN m (runF m cs) i = true := by
 obtain ⟨h1, h2⟩ := jey h
 unfold okN
 rw [h2]
 exact mem_movesF.1 (qk _ _ _ (by have := jew (c := cs.getD i 0) h1; omega))
theorem jez (m : Md) (cs : List Int) : nF m (runF m cs) = (runF m cs).length := qiy (Nat.le_refl _) (fun _ h => qrl h) (.inl rfl)
end Go.St
end
section
namespace Go.Proofs.YtdoaagphhjggbaaGreat
open List renaming getD_eq_getElem?_getD → zd
open Go Go.Sx Go.RowKit Go.St
set_option maxRecDepth 100000
set_option maxHeartbeats 4000000
theorem jsr (m : Md) (hM : ModOk m) (h0 : qn m (qx m) = true) (cs : List Int) (hl : cs.length ≤ 1000000) : Con Tryz.prog 29 [m.av, ints cs] (qgu (runF m cs)) := by
 have hrl := jex m cs
 have hat := fun {i} => jey (m := m) (cs := cs) (i := i)
 have hen := jsq (m := m) (cs := cs)
 have hok := fun {i} => qrl (m := m) (cs := cs) (i := i)
 generalize runF m cs = L at hrl hat hen hok
 refine zK {lit := true, owns := [(6, (51, 4))]} 300 Tryz.func29 (fun c0 rdb => ?_)
 (repeat' ((conv => whnf); first | refine zC 300 (jrp m hM.ok) ?_ | fail))
 ((conv => whnf); refine qo (fun _ => rfl) 300 1 (fun i : Nat => [(7, iv i), (6, .own 2 0 0 i)]) (fun i => [(1, .box 34 (stN m L i).cells), (2, .row [] 51 4 0 i (encL Mv.cells {} L))]) (fun i => i ≤ L.length) (fun i => L.length - i) (0) (Nat.zero_le _) qa ⟨⟨rfl, Le.refl _, Le.refl _, Le.refl _, Le.refl _, trivial⟩, qaz (fun k hk => absurd hk (Nat.not_lt_zero k)), trivial⟩ (fun _ => rfl) (by kernel_rfl) ?_; (conv => whnf))
 intro i hi
 have hf := qki hM h0 (fun j hj => hok (i := j) (by omega)) (i := i)
 have hmv := jrb m hM (stN m L i) hf
 have hVl := jrq hM (stN m L i)
 by_cases hiL : i < L.length
 ·obtain ⟨hVp, hsel⟩ := hat hiL
  have hK := jew (c := cs.getD i 0) hVp
  generalize qao m (stN m L i) = V at hmv hVl hVp hsel hK
  have hlt := Int.tmod_lt_of_pos (cs.getD i 0) (show (0 : Int) < V.length by omega)
  have hgt := Int.lt_tmod_of_pos (cs.getD i 0) (show (0 : Int) < V.length by omega)
  have hr : inR .i64 ((cs.getD i 0).tmod V.length + V.length) := ⟨show (-9223372036854775808 : Int) ≤ (cs.getD i 0).tmod V.length + V.length by omega, show (cs.getD i 0).tmod V.length + V.length ≤ 9223372036854775807 by omega⟩
  have hne : ¬ V = [] := fun h => by rw [h] at hVp; exact absurd hVp (Nat.lt_irrefl 0)
  by_cases hneg : (cs.getD i 0).tmod V.length < 0
  ·have hpk : qea (cs.getD i 0) V.length = ((cs.getD i 0).tmod V.length + V.length) := by unfold qea; rw [if_pos hneg]
   rw [hpk] at hsel hK
   have hdo := jee m hM (stN m L i) (V.getD (((cs.getD i 0).tmod V.length + V.length)).toNat {}) hf (by rw [← hsel]; exact hok hiL)
   have hst : qt m (stN m L i) (V.getD (((cs.getD i 0).tmod V.length + V.length)).toNat {}) = stN m L (i + 1) := by rw [← hsel]; rfl
   rw [hst] at hdo
   (repeat' ((conv => whnf); first | refine Ob.auto ?_ | refine zC 300 (hmv) ?_ | (apply zB <;> intro hb <;> (try simp [-zd] at hb) <;> try (exfalso; omega))))
   ·exact absurd (by assumption) hne
   (repeat' ((conv => whnf); first | refine zA ?_ | refine Ob.auto ?_ | (refine CallY.con (hdo) (by rfl) leA ?_) | (refine zQ 300 ?_) | fail))
   ((conv => whnf); refine ⟨i + 1, by omega, ⟨qa, ⟨SoLe.refl _, ⟨⟨rfl, rfl, rfl⟩, rfl, rfl, jef (fun _ _ => rfl) (congrArg Mv.cells hsel.symm)⟩, trivial⟩⟩, ⟨qa, qa⟩, ?_⟩; (first | omega | (dsimp only; omega) | skip))
  ·have hpk : qea (cs.getD i 0) V.length = ((cs.getD i 0).tmod V.length) := by unfold qea; rw [if_neg (by omega)]
   rw [hpk] at hsel hK
   have hdo := jee m hM (stN m L i) (V.getD (((cs.getD i 0).tmod V.length)).toNat {}) hf (by rw [← hsel]; exact hok hiL)
   have hst : qt m (stN m L i) (V.getD (((cs.getD i 0).tmod V.length)).toNat {}) = stN m L (i + 1) := by rw [← hsel]; rfl
   rw [hst] at hdo
   (repeat' ((conv => whnf); first | refine Ob.auto ?_ | refine zC 300 (hmv) ?_ | (apply zB <;> intro hb <;> (try simp [-zd] at hb) <;> try (exfalso; omega))))
   ·exact absurd (by assumption) hne
   (repeat' ((conv => whnf); first | refine zA ?_ | refine Ob.auto ?_ | (refine CallY.con (hdo) (by rfl) leA ?_) | (refine zQ 300 ?_) | fail))
   ((conv => whnf); refine ⟨i + 1, by omega, ⟨qa, ⟨SoLe.refl _, ⟨⟨rfl, rfl, rfl⟩, rfl, rfl, jef (fun _ _ => rfl) (congrArg Mv.cells hsel.symm)⟩, trivial⟩⟩, ⟨qa, qa⟩, ?_⟩; (first | omega | (dsimp only; omega) | skip))
 ·obtain rfl : i = L.length := by omega
  by_cases hcs : L.length < cs.length
  ·rw [List.length_eq_zero_iff.1 (hen hcs)] at hmv
   (repeat' ((conv => whnf); first | refine Ob.auto ?_ | refine zC 300 (hmv) ?_ | (apply zB <;> intro hb <;> (try simp [-zd] at hb) <;> try (exfalso; omega))))
   exact Le.refl _
  ·(repeat' ((conv => whnf); first | refine Ob.auto ?_ | (apply zB <;> intro hb <;> (try simp [-zd] at hb) <;> try (exfalso; omega))))
   exact Le.refl _
end Go.Proofs.YtdoaagphhjggbaaGreat
end
section
namespace Go.St
open Go Go.Sx
def VFit (vs : List Vr) : Prop := ∀ v ∈ vs, trim v.value v.width = v.value
theorem VFit.snoc {vs : List Vr} {v : Vr} (h : VFit vs) (hv : trim v.value v.width = v.value) : VFit (vs ++ [v]) := fun u hu => by
 rcases List.mem_append.1 hu with hu | hu
 ·exact h u hu
 ·rw [List.mem_singleton] at hu
  rw [hu]; exact hv
theorem qop {α β : Type} {f : β → α → β} {P : β → Prop} : ∀ (l : List α) (b : β), (∀ a ∈ l, ∀ b, P b → P (f b a)) → P b → P (l.foldl f b)
 | [], _, _, h => h
 | a :: r, b, hf, h => qop r (f b a) (fun a' ha' => hf a' (List.mem_cons_of_mem _ ha')) (hf a (List.mem_cons_self ..) b h)
section
variable {l : List Nd} (ht : Tree l) (hw : ∀ i, i < l.length → qbe l i = 0)
include hw
theorem jfa {k : Int} (h0 : 0 ≤ k) (h1 : k < l.length) (h2 : (l.getD k.toNat nd0).kind = 2) : trim ((l.getD k.toNat nd0).nums.getD 1 0) ((l.getD k.toNat nd0).nums.getD 0 0) = (l.getD k.toNat nd0).nums.getD 1 0 := by
 have := hw k.toNat (by omega)
 unfold qbe at this
 rw [if_neg (by omega), if_pos h2] at this
 split at this
 ·omega
 ·rename_i hn
  exact Classical.byContradiction fun hc => hn (.inr (.inl hc))
include ht
theorem jss (k : Int) (hk : k ∈ (l.getD 0 nd0).kids) (m : Md) (h : VFit m.vars) : VFit (qgs l m k).vars := by
 have hb := ht.kids 0 (by have := ht.len; omega) k hk
 unfold qgs
 simp only
 split
 ·exact h
 split
 ·exact h.snoc (jfa hw (by omega) hb.2 (by assumption))
 split
 ·exact h
 split <;> exact h
theorem jst {n : Nat} (hn : n < l.length) (k : Int) (hk : k ∈ (l.getD n nd0).kids.take (varsN l (l.getD n nd0))) (x : Pr × List Vr) (h : VFit x.2) : VFit (qdy l x k).2 := by
 have hb := ht.kids n hn k (List.mem_of_mem_take hk)
 obtain ⟨i, hi, rfl⟩ := List.mem_iff_getElem.1 hk
 have hi' : i < varsN l (l.getD n nd0) := by rw [List.length_take] at hi; omega
 have h2 := (qux l (l.getD n nd0)).2 i hi'
 unfold qdy
 simp only
 refine h.snoc (jfa hw (by omega) hb.2 ?_)
 unfold kidK at h2
 rw [List.getElem_take]
 rw [List.getElem_take] at hb
 rw [List.getD_eq_getElem?_getD (l := (l.getD n nd0).kids), List.getElem?_eq_getElem (by rw [List.length_take] at hi; omega)] at h2
 exact h2
theorem jsu (cs : List Ch) {k : Int} (h0 : 0 ≤ k) (h1 : k < l.length) (seen : Nat) (c : Nat) (x : List Vr × List Pr) (h : VFit x.1) : VFit (qdn l cs k seen x c).1 := by
 unfold qdn
 simp only
 exact qop (P := fun y : Pr × List Vr => VFit y.2) _ _ (fun a ha b hb => jst ht hw (n := k.toNat) (by omega) a ha b hb) h
theorem jsv (cs : List Ch) (k : Int) (hk : k ∈ (l.getD 0 nd0).kids) (x : Nat × List Vr × List Pr) (h : VFit x.2.1) : VFit (qco l cs x k).2.1 := by
 have hb := ht.kids 0 (by have := ht.len; omega) k hk
 unfold qco
 simp only
 split
 ·exact qop (P := fun y : List Vr × List Pr => VFit y.1) _ _ (fun c _ b hb' => jsu ht hw cs (by omega) hb.2 _ c b hb') h
 ·exact h
theorem jsw : VFit (qex l).vars := by
 have h1 : VFit (qcp l).vars := qop (P := fun m : Md => VFit m.vars) _ _ (fun k hk m hm => jss ht hw k hk m hm) (fun v hv => by cases hv)
 unfold qex
 simp only
 exact qop (P := fun x : Nat × List Vr × List Pr => VFit x.2.1) _ _ (fun k hk x hx => jsv ht hw _ k hk x hx) h1
end
theorem jsx {m : Md} (hm : MOk m) (hv : VFit m.vars) : qn m (qx m) = true := by
 refine (jj m _).2 ⟨⟨by simp [qx], by simp [qx], by simp [qx], by simp [qx], by simp only [qx]; omega⟩, fun i hi => ?_, fun i hi => ?_, fun i hi => ?_⟩
 ·have hi' : i < m.procs.length := by simpa [qx] using hi
  have hp := hm.place _ (qk m.procs i pr0 hi')
  unfold qnc
  rw [qx, qjv _ _ _ _ hi']
  omega
 ·have hi' : i < m.vars.length := by simpa [qx] using hi
  unfold qlh
  rw [qx, qtt _ _ _ _ vr0 hi']
  exact hv _ (qk m.vars i vr0 hi')
 ·have hi' : i < m.chans.length := by simpa [qx] using hi
  have hc := hm.chan _ (qk m.chans i ch0 hi')
  have hg : (qx m).chans.getD i [] = [] := by rw [qx, qjv _ _ _ _ hi']
  refine ⟨?_, fun k hk => ?_⟩
  ·unfold qim
   rw [hg]; exact hc.1
  ·rw [hg] at hk; simp at hk
end Go.St
end
