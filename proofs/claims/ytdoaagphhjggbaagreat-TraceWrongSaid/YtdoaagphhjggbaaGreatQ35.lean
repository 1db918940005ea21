/- Some texts of the library, one behind the other. -/
import Derived.Test.YtdoaagphhjggbaaGreatQ33
import Derived.Test.YtdoaagphhjggbaaGreatQ34
import Derived.Test.YtdoaagphhjggbaaGreatQ32
import Derived.Test.YtdoaagphhjggbaaGreatQ31
import Derived.Test.YtdoaagphhjggbaaGreatQ2
section
namespace Go.Proofs.YtdoaagphhjggbaaGreat
open List renaming getD_eq_getElem?_getD → zd
open Go Go.Sx Go.RowKit Go.St
set_option maxRecDepth 100000
set_option maxHeartbeats 4000000
theorem qrt (m : Md) (s : Stt) (c : Nat) : qem m s c = (if (m.chans.getD c ch0).lossy = true ∧ 0 < (s.chans.getD c []).length then [⟨1, 0, 0, c⟩] else []) ++ (if ((m.chans.getD c ch0).copying = true ∧ 0 < (s.chans.getD c []).length) ∧ ((s.chans.getD c []).length : Int) < (m.chans.getD c ch0).room then [⟨2, 0, 0, c⟩] else []) := by
 unfold qem qjc qib qlen room
 simp only [Int.toNat_natCast, Bool.and_eq_true, decide_eq_true_eq, Int.natCast_pos]
theorem jri (m : Md) (hM : ModOk m) (s : Stt) (hf : qi m s = true) : Con Tryz.prog 15 [m.av, s.av] (qec (jr m s)) := by
 have hs := qbx hM hf
 have h0 := ((ji m s).1 hf).1
 have hz := hM.sz
 have hpl := qrs m hM s
 have hcl := h0.2.2.1
 have hpz := hM.psz
 have hh := h0.2.2.2.1
 refine zK {owns := [(5, (51, 4))]} 300 Tryz.func15 (fun c0 rdb => ?_)
 ((conv => whnf); refine qo (fun _ => rfl) 300 1 (fun i : Nat => [(6, iv i), (5, .own 2 0 0 (qp m s i).length)]) (fun i => [(2, .row [] 51 4 0 (qp m s i).length (encL Mv.cells {} (qp m s i)))]) (fun i => i ≤ m.procs.length) (fun i => m.procs.length - i) (0) (Nat.zero_le _) qa ⟨qba (fun k hk => absurd hk (Nat.not_lt_zero k)), trivial⟩ (fun _ => rfl) (by kernel_rfl) ?_; (conv => whnf))
 intro i hi
 have hpi := hpl i hi
 (repeat' ((conv => whnf); first | refine Ob.auto ?_ | (apply zB <;> intro hb <;> (try simp [-zd] at hb) <;> try (exfalso; omega))))
 ·have hp1 : qp m s (i + 1) = qp m s i := by rw [qoo, if_pos ⟨by omega, by omega⟩, List.append_nil]
  ((conv => whnf); refine ⟨i + 1, by omega, ⟨⟨Le.refl _, qhb hp1.symm 2, trivial⟩, ⟨qfe Mv.cells {} hp1.symm, trivial⟩⟩, ⟨qa, qa⟩, ?_⟩; (first | omega | (dsimp only; omega) | skip))
 ·have hp1 : qp m s (i + 1) = qp m s i ++ qia m s i := by rw [qoo, if_neg (fun h => by omega)]
  have hil : i < m.procs.length := by assumption
  have hpe := (hpz _ (ql m.procs i pr0 hil)).1
  have hel : (edgesOf m i).length ≤ 40000 := hpe
  have he0 : qp m s i ++ qbm m s i 0 = qp m s i := List.append_nil _
  ((conv => whnf); refine qo (fun _ => rfl) 300 2 (fun j : Nat => [(7, iv j), (5, .own 2 0 0 (qp m s i ++ qbm m s i j).length)]) (fun j => [(2, .row [] 51 4 0 (qp m s i ++ qbm m s i j).length (encL Mv.cells {} (qp m s i ++ qbm m s i j)))]) (fun j => j ≤ (edgesOf m i).length) (fun j => (edgesOf m i).length - j) (0) (Nat.zero_le _) ⟨Le.refl _, qhb he0.symm 2, trivial⟩ ⟨qfe Mv.cells {} he0.symm, trivial⟩ (fun _ => rfl) (by kernel_rfl) ?_; (conv => whnf))
  intro j hj
  have hen := qwf m s i j
  have hsum : (qp m s i ++ qbm m s i j).length ≤ 200000 := by rw [List.length_append]; omega
  generalize hL : qp m s i ++ qbm m s i j = L at hsum ⊢
  (repeat' ((conv => whnf); first | refine Ob.auto ?_ | (apply zB <;> intro hb <;> (try simp [-zd] at hb) <;> try (exfalso; omega))))
  ·have hjl : j < (edgesOf m i).length := by assumption
   ((conv => whnf); refine zQ 300 ?_)
   (repeat' ((conv => whnf); first | refine zA ?_ | refine Ob.auto ?_ | (refine CallY.con (jdt m hM.ok s hf i hil ((edgesOf m i).getD j ed0) (edOk hM hil hjl)) (by rfl) leA ?_) | (apply zB <;> intro hb <;> (try simp [-zd] at hb) <;> try (exfalso; omega))))
   ·have hE : L ++ [⟨0, i, j, 0⟩] = qp m s i ++ qbm m s i (j + 1) := by rw [qrq, if_pos hb, ← List.append_assoc, hL]
    ((conv => whnf); refine ⟨j + 1, hjl, ⟨⟨Le.refl _, qly hE 2, trivial⟩, ⟨qjd Mv.cells {} hE rfl, trivial⟩⟩, ⟨qa, qa⟩, ?_⟩; (first | omega | (dsimp only; omega) | skip))
   ·have hE : L = qp m s i ++ qbm m s i (j + 1) := by rw [qrq, if_neg (by rw [hb]; decide), List.append_nil, hL]
    ((conv => whnf); refine ⟨j + 1, hjl, ⟨⟨Le.refl _, qhb hE 2, trivial⟩, ⟨qfe Mv.cells {} hE, trivial⟩⟩, ⟨qa, qa⟩, ?_⟩; (first | omega | (dsimp only; omega) | skip))
  ·have hjl : (edgesOf m i).length ≤ j := by assumption
   obtain rfl : j = (edgesOf m i).length := by omega
   rw [jea, ← hp1] at hL
   ((conv => whnf); refine ⟨i + 1, hil, ⟨⟨Le.refl _, qhb hL.symm 2, trivial⟩, ⟨qfe Mv.cells {} hL.symm, trivial⟩⟩, ⟨qa, qa⟩, ?_⟩; (first | omega | (dsimp only; omega) | skip))
 ·obtain rfl : i = m.procs.length := by omega
  have he0 : qp m s m.procs.length ++ qat m s 0 = qp m s m.procs.length := List.append_nil _
  ((conv => whnf); refine qo (fun _ => rfl) 300 2 (fun c : Nat => [(8, iv c), (5, .own 2 0 0 (qp m s m.procs.length ++ qat m s c).length)]) (fun c => [(2, .row [] 51 4 0 (qp m s m.procs.length ++ qat m s c).length (encL Mv.cells {} (qp m s m.procs.length ++ qat m s c)))]) (fun c => c ≤ m.chans.length ∧ (s.holder = -1 ∨ c = 0)) (fun c => m.chans.length - c) (0) (⟨Nat.zero_le _, .inr rfl⟩) ⟨Le.refl _, qhb he0.symm 2, trivial⟩ ⟨qfe Mv.cells {} he0.symm, trivial⟩ (fun _ => rfl) (by kernel_rfl) ?_; (conv => whnf))
  rintro c ⟨hc, hc2⟩
  have hcn := qrr m s c
  have hsum : (qp m s m.procs.length ++ qat m s c).length ≤ 200000 := by rw [List.length_append]; omega
  generalize hL : qp m s m.procs.length ++ qat m s c = L at hsum ⊢
  (repeat' ((conv => whnf); first | refine Ob.auto ?_ | (apply zB <;> intro hb <;> (try simp [-zd] at hb) <;> try (exfalso; omega))))
  ·have hE : L ++ [⟨1, 0, 0, c⟩, ⟨2, 0, 0, c⟩] = qp m s m.procs.length ++ qat m s (c + 1) := by rw [qid, ← List.append_assoc, hL]; rw [qrt, if_pos (by assumption), if_pos (by assumption)]; rfl
   ((conv => whnf); refine ⟨c + 1, ⟨by omega, .inl (by omega)⟩, ⟨⟨Le.refl _, jec hE 2, trivial⟩, ⟨jeb Mv.cells {} hE rfl rfl, trivial⟩⟩, ⟨qa, qa⟩, ?_⟩; (first | omega | (dsimp only; omega) | skip))
  ·have hE : L ++ [⟨1, 0, 0, c⟩] = qp m s m.procs.length ++ qat m s (c + 1) := by rw [qid, ← List.append_assoc, hL]; rw [qrt, if_pos (by assumption), if_neg (fun h => by have := (by assumption : (m.chans.getD c ch0).copying = true → 0 < (s.chans.getD c []).length → (m.chans.getD c ch0).room ≤ ((s.chans.getD c []).length : Int)) h.1.1 h.1.2; omega)]; rfl
   ((conv => whnf); refine ⟨c + 1, ⟨by omega, .inl (by omega)⟩, ⟨⟨Le.refl _, qly hE 2, trivial⟩, ⟨qjd Mv.cells {} hE rfl, trivial⟩⟩, ⟨qa, qa⟩, ?_⟩; (first | omega | (dsimp only; omega) | skip))
  ·have hE : L ++ [⟨2, 0, 0, c⟩] = qp m s m.procs.length ++ qat m s (c + 1) := by rw [qid, ← List.append_assoc, hL]; rw [qrt, if_neg (fun h => by have e := (by assumption : (m.chans.getD c ch0).lossy = true → s.chans.getD c [] = []) h.1; rw [e] at h; exact absurd h.2 (Nat.lt_irrefl 0)), if_pos (by assumption)]; rfl
   ((conv => whnf); refine ⟨c + 1, ⟨by omega, .inl (by omega)⟩, ⟨⟨Le.refl _, qly hE 2, trivial⟩, ⟨qjd Mv.cells {} hE rfl, trivial⟩⟩, ⟨qa, qa⟩, ?_⟩; (first | omega | (dsimp only; omega) | skip))
  ·have hE : L = qp m s m.procs.length ++ qat m s (c + 1) := by rw [qid, ← List.append_assoc, hL]; rw [qrt, if_neg (fun h => by have e := (by assumption : (m.chans.getD c ch0).lossy = true → s.chans.getD c [] = []) h.1; rw [e] at h; exact absurd h.2 (Nat.lt_irrefl 0)), if_neg (fun h => by have := (by assumption : (m.chans.getD c ch0).copying = true → 0 < (s.chans.getD c []).length → (m.chans.getD c ch0).room ≤ ((s.chans.getD c []).length : Int)) h.1.1 h.1.2; omega)]; simp
   ((conv => whnf); refine ⟨c + 1, ⟨by omega, .inl (by omega)⟩, ⟨⟨Le.refl _, qhb hE 2, trivial⟩, ⟨qfe Mv.cells {} hE, trivial⟩⟩, ⟨qa, qa⟩, ?_⟩; (first | omega | (dsimp only; omega) | skip))
  ·have hmv : jr m s = qp m s m.procs.length ++ qat m s c := by
    unfold jr
    by_cases hho : s.holder = -1
    ·obtain rfl : c = m.chans.length := by omega
     rw [if_pos hho]; rfl
    ·obtain rfl : c = 0 := hc2.resolve_left hho
     rw [if_neg hho]; rfl
   rw [hmv, hL]
   exact Le.refl _
end Go.Proofs.YtdoaagphhjggbaaGreat
end
section
namespace Go.Proofs.YtdoaagphhjggbaaGreat
open Go Go.Sx Go.RowKit Go.St
set_option maxRecDepth 100000
set_option maxHeartbeats 4000000

theorem qwg {k i : Nat} (h : k ≠ i) : (k < i + 1) = (k < i) := propext ⟨fun _ => by omega, fun _ => by omega⟩
theorem qje {f g : Nat → List AV} {m q : Nat} (hq : q < m) : appF 0 f m g q = g q := by
 unfold appF
 rw [if_neg (by omega), if_pos (by omega), Nat.sub_zero]
theorem jrj (l : List Int) (hl : l.length ≤ 1000000) : Con Tryz.prog 81 [ints l] (ints l) := by
 refine zK {} 300 Tryz.func81 (fun c0 rdb => ?_)
 (repeat' ((conv => whnf); first | refine Ob.auto ?_ | (refine Ob.intro (by ((refine ⟨by omega, by omega, by omega, ?_⟩; dsimp only; refine Int.le_trans (Int.mul_le_mul_of_nonneg_right (?_ : _ ≤ (4000001 : Int)) (Int.natCast_nonneg _)) (by decide +kernel); omega))) ?_) | fail))
 exact Le.slc (by simp) (fun q hq => qje (by simpa using hq))
theorem qop (l : List Int) (hl : l.length ≤ 1000000) : Trip Tryz.prog 81 [ints l] [] (.own 0 0 0 l.length) [(0, .row [] 3 1 0 l.length (encL (fun n => [iv n]) 0 l))] 1 := by
 refine zL {} 300 Tryz.func81 (fun c0 rdb mpb => ?_)
 (repeat' ((conv => whnf); first | refine Ob.auto ?_ | (refine Ob.intro (by ((refine ⟨by omega, by omega, by omega, ?_⟩; dsimp only; refine Int.le_trans (Int.mul_le_mul_of_nonneg_right (?_ : _ ≤ (4000001 : Int)) (Int.natCast_nonneg _)) (by decide +kernel); omega))) ?_) | fail))
 refine ⟨Le.of_eq (by simp), ⟨⟨rfl, rfl, by simp⟩, rfl, by simp, fun q hq => LeL.of_eq (qje (by simpa using hq))⟩, trivial⟩
theorem jed (s : Stt) (hs : SSz s) : Trip Tryz.prog 51 [s.av] [] (.agg [.own 4 0 0 s.at_.length, .own 8 0 0 s.vars.length, .own 13 0 0 s.chans.length, iv s.holder])
  [(4, .row [] 3 1 0 s.at_.length (encL (fun n => [iv n]) 0 s.at_)), (8, .row [] 3 1 0 s.vars.length (encL (fun n => [iv n]) 0 s.vars)), (13, .row [] 23 1 0 s.chans.length (encL (fun c => [ints c]) [] s.chans))] 14 := by
 have ha := hs.a
 have hv := hs.v
 have hc := hs.c
 have hl := hs.l
 refine zL {} 300 Tryz.func51 (fun c0 rdb mpb => ?_)
 ((conv => whnf); refine qbe (fun _ => rfl) (by kernel_rfl) 300 [.new [ints s.at_] (.own 0 0 0 s.at_.length) [(0, .row [] 3 1 0 s.at_.length (encL (fun n => [iv n]) 0 s.at_))] 1, .new [ints s.vars] (.own 0 0 0 s.vars.length) [(0, .row [] 3 1 0 s.vars.length (encL (fun n => [iv n]) 0 s.vars))] 1] (by kernel_rfl) ?_)
 (repeat' ((conv => whnf); first | refine Ob.auto ?_ | (refine Ob.intro (by (first | (refine ⟨by omega, by omega, by omega, ?_⟩; dsimp only; refine Int.le_trans (Int.mul_le_mul_of_nonneg_right (?_ : _ ≤ (4000001 : Int)) (Int.natCast_nonneg _)) (by decide +kernel); omega) | exact ⟨qop s.at_ hs.a, by rfl, LeL.refl _, by kernel_rfl, by kernel_rfl, by exact qb rfl⟩ | exact ⟨qop s.vars hs.v, by rfl, LeL.refl _, by kernel_rfl, by kernel_rfl, by exact qb rfl⟩)) ?_) | fail))
 ((conv => whnf); refine qo (fun _ => rfl) 300 1 (fun i : Nat => [(22, iv i)]) (fun i => [(13, .row [] 23 1 0 s.chans.length (fun k => [if k < i then ints (s.chans.getD k []) else .nils]))]) (fun i => i ≤ s.chans.length) (fun i => s.chans.length - i) (0) (by omega) qa ⟨qba (fun k _ => by rw [if_neg (Nat.not_lt_zero k)]; rfl), trivial⟩ (fun _ => rfl) (by kernel_rfl) ?_; (conv => whnf))
 intro i hi
 (repeat' ((conv => whnf); first | refine Ob.auto ?_ | (apply zB <;> intro hb <;> (try simp [-List.getD_eq_getElem?_getD] at hb) <;> try (exfalso; omega))))
 ·((conv => whnf); refine qbe (fun _ => rfl) (by kernel_rfl) 300 [.con (ints (s.chans.getD i []))] (by kernel_rfl) ?_)
  (repeat' ((conv => whnf); first | refine Ob.auto ?_ | (refine Ob.intro (by (first | exact ⟨by omega, by omega⟩ | exact ⟨_, jrj (s.chans.getD i []) (hl _ (ql _ _ _ (by omega))), by rfl, LeL.refl _⟩)) ?_) | fail))
  ((conv => whnf); refine ⟨i + 1, by omega, ⟨qa, qa⟩, ⟨qa, qa⟩, ?_⟩; (first | omega | (dsimp only; omega) | skip))
 ·obtain rfl : i = s.chans.length := by omega
  exact ⟨Le.refl _, ⟨⟨rfl, rfl, rfl⟩, rfl, rfl, fun q hq => LeL.refl _⟩, ⟨⟨rfl, rfl, rfl⟩, rfl, rfl, fun q hq => LeL.refl _⟩, qba (fun k hk => by rw [if_pos (by simpa using hk)]; rfl), trivial⟩
theorem jee (s : Stt) (hs : SSz s) : Trip Tryz.prog 51 [s.av] [] (.agg [.own 4 0 0 s.at_.length, .own 8 0 0 s.vars.length, .own 13 0 0 s.chans.length, iv s.holder])
  [(4, .row [] 3 1 0 s.at_.length (encL (fun n => [iv n]) 0 s.at_)), (8, .row [] 3 1 0 s.vars.length (encL (fun n => [iv n]) 0 s.vars)), (13, .row [19] 23 1 0 s.chans.length (fun k => [.own 19 k 1 (s.chans.getD k []).length])),
   (19, .fam 3 1 s.chans.length (fun _ => 1) (fun k => (s.chans.getD k []).length) (fun k => encL (fun n => [iv n]) 0 (s.chans.getD k [])))] 20 := by
 have ha := hs.a
 have hv := hs.v
 have hc := hs.c
 have hl := hs.l
 refine zL {} 300 Tryz.func51 (fun c0 rdb mpb => ?_)
 ((conv => whnf); refine qbe (fun _ => rfl) (by kernel_rfl) 300 [.new [ints s.at_] (.own 0 0 0 s.at_.length) [(0, .row [] 3 1 0 s.at_.length (encL (fun n => [iv n]) 0 s.at_))] 1, .new [ints s.vars] (.own 0 0 0 s.vars.length) [(0, .row [] 3 1 0 s.vars.length (encL (fun n => [iv n]) 0 s.vars))] 1] (by kernel_rfl) ?_)
 (repeat' ((conv => whnf); first | refine Ob.auto ?_ | (refine Ob.intro (by (first | (refine ⟨by omega, by omega, by omega, ?_⟩; dsimp only; refine Int.le_trans (Int.mul_le_mul_of_nonneg_right (?_ : _ ≤ (4000001 : Int)) (Int.natCast_nonneg _)) (by decide +kernel); omega) | exact ⟨qop s.at_ hs.a, by rfl, LeL.refl _, by kernel_rfl, by kernel_rfl, by exact qb rfl⟩ | exact ⟨qop s.vars hs.v, by rfl, LeL.refl _, by kernel_rfl, by kernel_rfl, by exact qb rfl⟩)) ?_) | fail))
 refine qzf 13 3 1 rfl (fun _ _ => rfl) ?_
 ((conv => whnf); refine jdx (fun _ => rfl) 300 1 (fun i : Nat => [(22, iv i)]) (fun i => [(13, .row [19] 23 1 0 s.chans.length (fun k => [.own 19 k (if k < i then 1 else 0) (if k < i then (s.chans.getD k []).length else 0)])), (19, .fam 3 1 s.chans.length (fun k => if k < i then 1 else 0) (fun k => if k < i then (s.chans.getD k []).length else 0) (fun k => encL (fun n => [iv n]) 0 (s.chans.getD k [])))]) (fun i => i ≤ s.chans.length) (fun i => s.chans.length - i) (0) (by omega) qa ⟨qba (fun k _ => by rw [if_neg (Nat.not_lt_zero k), if_neg (Nat.not_lt_zero k)]), qek (fun k _ => by rw [if_neg (Nat.not_lt_zero k)]) (fun k _ => by rw [if_neg (Nat.not_lt_zero k)]) (fun k j _ hj => absurd hj (Nat.not_lt_zero _)), trivial⟩ (fun _ => rfl) (by kernel_rfl) ?_; (conv => whnf))
 intro i hi
 (repeat' ((conv => whnf); first | refine Ob.auto ?_ | (apply zB <;> intro hb <;> (try simp [-List.getD_eq_getElem?_getD] at hb) <;> try (exfalso; omega))))
 ·have hci := hl _ (ql s.chans i [] (by omega))
  ((conv => whnf); refine qbe (fun _ => rfl) (by kernel_rfl) 300 [.new [ints (s.chans.getD i [])] (.own 0 0 0 (s.chans.getD i []).length) [(0, .row [] 3 1 0 (s.chans.getD i []).length (encL (fun n => [iv n]) 0 (s.chans.getD i [])))] 1] (by kernel_rfl) ?_)
  (repeat' ((conv => whnf); first | refine Ob.auto ?_ | (refine Ob.intro (by (first | exact ⟨by omega, by omega⟩ | exact ⟨qop _ hci, by rfl, LeL.refl _, by kernel_rfl, by kernel_rfl, by exact qb rfl⟩)) ?_) | fail))
  ((conv => whnf); refine ⟨i + 1, by omega, ⟨_, Turn.absorb 13 19 24 i rfl rfl rfl (by omega) (by decide) (by exact if_pos rfl) (fun k _ hne => ⟨_, _, if_neg hne⟩), ⟨qa, ⟨qba (fun k _ => ?_), qek (fun k _ => ?_) (fun k _ => ?_) (fun k j _ hj => ?_), trivial⟩⟩, ⟨qa, qa⟩⟩, ?_⟩; (first | omega | (dsimp only; omega) | skip))
  ·by_cases hki : k = i
   ·subst hki
    refine (if_pos rfl).trans ?_
    simp
   ·refine (if_neg hki).trans ((if_neg hki).trans ?_)
    simp only [qwg hki]
  ·unfold upd
   by_cases hki : k = i
   ·subst hki; simp
   ·rw [if_neg hki]; simp only [qwg hki]
  ·unfold upd
   by_cases hki : k = i
   ·subst hki; simp
   ·rw [if_neg hki]; simp only [qwg hki]
  ·unfold upd
   by_cases hki : k = i
   ·subst hki; rw [if_pos rfl]
   ·rw [if_neg hki]
  ·omega
 ·obtain rfl : i = s.chans.length := by omega
  exact ⟨Le.refl _, ⟨⟨rfl, rfl, rfl⟩, rfl, rfl, fun q hq => LeL.refl _⟩, ⟨⟨rfl, rfl, rfl⟩, rfl, rfl, fun q hq => LeL.refl _⟩, qba (fun k hk => by rw [if_pos hk, if_pos hk]), qek (fun k hk => by rw [if_pos hk]) (fun k hk => by rw [if_pos hk]) (fun _ _ _ _ => rfl), trivial⟩
theorem jef (s : Stt) (hs : SSz s) : Trip Tryz.prog 54 [s.av] [] (.agg [.own 2 0 0 s.at_.length, .own 6 0 0 s.vars.length, .own 15 0 0 s.chans.length, iv s.holder])
  [(2, .row [] 3 1 0 s.at_.length (encL (fun n => [iv n]) 0 s.at_)), (6, .row [] 3 1 0 s.vars.length (encL (fun n => [iv n]) 0 s.vars)), (15, .row [] 23 1 0 s.chans.length (encL (fun c => [ints c]) [] s.chans))] 16 := by
 have ha := hs.a
 have hv := hs.v
 have hc := hs.c
 have hl := hs.l
 refine zL {lit := true} 300 Tryz.func54 (fun c0 rdb mpb => ?_)
 (repeat' ((conv => whnf); first | refine zO ?_ | refine Ob.auto ?_ | refine zD 300 ?_ | fail))
 refine qco 13 2 23 1 rfl rfl ?_
 ((conv => whnf); refine jrk (fun _ => rfl) 300 1 (fun i : Nat => [(4, iv i)]) (fun i => [(13, .box 34 [.own 2 0 0 s.at_.length, .own 6 0 0 s.vars.length, .own 15 0 0 i, iv s.holder]), (15, .row [] 23 1 0 i (encL (fun c => [ints c]) [] s.chans))]) (fun i => i ≤ s.chans.length) (fun i => s.chans.length - i) (0) (Nat.zero_le _) qa ⟨⟨rfl, Le.of_eq (congrArg (AV.own 2 0 0) (Nat.zero_add _)), Le.of_eq (congrArg (AV.own 6 0 0) (Nat.zero_add _)), Le.refl _, Le.refl _, trivial⟩, qba (fun k hk => absurd hk (Nat.not_lt_zero k)), trivial⟩ (fun _ => rfl) (by kernel_rfl) ?_; (conv => whnf))
 intro i hi
 have hli : i < s.chans.length → _ := fun h => hl _ (ql s.chans i [] h)
 (repeat' ((conv => whnf); first | refine zO ?_ | refine Ob.auto ?_ | refine zD 300 ?_ | (apply zB <;> intro hb <;> (try simp [-List.getD_eq_getElem?_getD] at hb) <;> try (exfalso; omega)) | refine Ob.intro ?_ ?_ | fail))
 ·have hli : (s.chans.getD (i : Int).toNat []).length ≤ 1000000 := hli (by omega)
  refine ⟨⟨rfl, rfl⟩, by omega, ?_⟩
  dsimp only
  refine Nat.le_trans (Nat.mul_le_mul_right _ (?_ : _ ≤ 4000001)) (by decide +kernel); omega
 ·have hli := hli (by omega)
  ((conv => whnf); refine ⟨i + 1, by omega, ⟨_, TurnR.melt [0, 1, 2, 6, 13, 15] 15 rfl (fun k hk => ?_), ⟨qa, ⟨?_, ⟨⟨rfl, rfl, rfl⟩, rfl, rfl, fun k hk => ?_⟩, trivial⟩⟩, ⟨qa, qa⟩⟩, ?_⟩; (first | omega | (dsimp only; omega) | skip))
  ·show allP _ (if k < i then _ else _)
   by_cases h : k < i
   ·rw [if_pos h]; exact ⟨trivial, trivial⟩
   ·obtain rfl : k = i := by omega
    rw [if_neg h, if_pos hk, Nat.sub_self]; exact ⟨⟨trivial, ⟨rfl, rfl⟩, trivial⟩, trivial⟩
  ·exact ⟨rfl, Le.refl _, Le.refl _, Le.refl _, Le.refl _, trivial⟩
  ·show LeL (List.map _ (if k < i then _ else _)) _
   by_cases h : k < i
   ·rw [if_pos h]; exact LeL.refl _
   ·obtain rfl : k = i := by omega
    rw [if_neg h, if_pos hk, Nat.sub_self]
    exact ⟨Le.slc (by simp) (fun q hq => qje (by simpa using hq)), trivial⟩
  ·omega
 ·obtain rfl : i = s.chans.length := by omega
  refine ⟨Le.refl _, ⟨⟨rfl, rfl, by simp⟩, rfl, by simp, fun q hq => LeL.of_eq (qje (by simpa using hq))⟩, ⟨⟨rfl, rfl, by simp⟩, rfl, by simp, fun q hq => LeL.of_eq (qje (by simpa using hq))⟩, ⟨⟨rfl, rfl, rfl⟩, rfl, rfl, fun q hq => LeL.refl _⟩, trivial⟩
theorem jeg (s : Stt) (hs : SSz s) : Trip Tryz.prog 54 [s.av] [] (.agg [.own 2 0 0 s.at_.length, .own 6 0 0 s.vars.length, .own 15 0 0 s.chans.length, iv s.holder])
  [(2, .row [] 3 1 0 s.at_.length (encL (fun n => [iv n]) 0 s.at_)), (6, .row [] 3 1 0 s.vars.length (encL (fun n => [iv n]) 0 s.vars)), (15, .row [16] 23 1 0 s.chans.length (fun k => [.own 16 k 1 (s.chans.getD k []).length])),
   (16, .fam 3 1 s.chans.length (fun _ => 1) (fun k => (s.chans.getD k []).length) (fun k => encL (fun n => [iv n]) 0 (s.chans.getD k [])))] 17 := by
 have ha := hs.a
 have hv := hs.v
 have hc := hs.c
 have hl := hs.l
 refine zL {lit := true} 300 Tryz.func54 (fun c0 rdb mpb => ?_)
 (repeat' ((conv => whnf); first | refine zO ?_ | refine Ob.auto ?_ | refine zD 300 ?_ | fail))
 refine qco 13 2 23 1 rfl rfl ?_
 refine jbh 15 3 1 rfl ?_
 ((conv => whnf); refine jdx (fun _ => rfl) 300 1 (fun i : Nat => [(4, iv i)]) (fun i => [(13, .box 34 [.own 2 0 0 s.at_.length, .own 6 0 0 s.vars.length, .own 15 0 0 i, iv s.holder]), (15, .row [16] 23 1 0 i (fun k => [.own 16 k 1 (s.chans.getD k []).length])), (16, .fam 3 1 i (fun _ => 1) (fun k => (s.chans.getD k []).length) (fun k => encL (fun n => [iv n]) 0 (s.chans.getD k [])))]) (fun i => i ≤ s.chans.length) (fun i => s.chans.length - i) (0) (Nat.zero_le _) qa ⟨⟨rfl, Le.of_eq (congrArg (AV.own 2 0 0) (Nat.zero_add _)), Le.of_eq (congrArg (AV.own 6 0 0) (Nat.zero_add _)), Le.refl _, Le.refl _, trivial⟩, qba (fun k hk => absurd hk (Nat.not_lt_zero k)), qek (fun k hk => absurd hk (Nat.not_lt_zero k)) (fun k hk => absurd hk (Nat.not_lt_zero k)) (fun k _ hk => absurd hk (Nat.not_lt_zero k)), trivial⟩ (fun _ => rfl) (by kernel_rfl) ?_; (conv => whnf))
 intro i hi
 have hli : i < s.chans.length → _ := fun h => hl _ (ql s.chans i [] h)
 (repeat' ((conv => whnf); first | refine zO ?_ | refine Ob.auto ?_ | refine zD 300 ?_ | (apply zB <;> intro hb <;> (try simp [-List.getD_eq_getElem?_getD] at hb) <;> try (exfalso; omega)) | refine Ob.intro ?_ ?_ | fail))
 ·have hli : (s.chans.getD (i : Int).toNat []).length ≤ 1000000 := hli (by omega)
  refine ⟨⟨rfl, rfl⟩, by omega, ?_⟩
  dsimp only
  refine Nat.le_trans (Nat.mul_le_mul_right _ (?_ : _ ≤ 4000001)) (by decide +kernel); omega
 ·have hli := hli (by omega)
  ((conv => whnf); refine ⟨i + 1, by omega, ⟨_, Turn.join 15 16 19 rfl rfl rfl (by decide) (by exact (if_neg (Nat.lt_irrefl i)).trans ((if_pos (Nat.lt_succ_self i)).trans (by rw [Nat.sub_self]; rfl))) (fun k hk => ⟨_, _, if_pos hk⟩), ⟨qa, ⟨?_, qba (fun k hk => ?_), qek (fun k hk => ?_) (fun k hk => ?_) (fun k j hk hj => ?_), trivial⟩⟩, ⟨qa, qa⟩⟩, ?_⟩; (first | omega | (dsimp only; omega) | skip))
  ·exact ⟨rfl, Le.refl _, Le.refl _, Le.refl _, Le.refl _, trivial⟩
  ·by_cases hki : k = i
   ·subst hki
    refine (if_pos rfl).trans ?_
    simp
   ·refine (if_neg hki).trans ?_
    exact if_pos (by omega)
  ·show Go.Sx.upd _ _ _ k = 1
   unfold Go.Sx.upd
   by_cases hki : k = i
   ·subst hki; simp
   ·rw [if_neg hki]; exact if_pos (by omega)
  ·show Go.Sx.upd _ _ _ k = _
   unfold Go.Sx.upd
   by_cases hki : k = i
   ·subst hki; simp
   ·rw [if_neg hki]; exact if_pos (by omega)
  ·have hj : j < Go.Sx.upd (fun k => if k < i then (s.chans.getD k []).length else 0) i (0 + (s.chans.getD (i : Int).toNat []).length) k := hj
   unfold Go.Sx.upd at hj
   show Go.Sx.upd (α := Nat → List AV) _ _ _ k j = _
   unfold Go.Sx.upd
   by_cases hki : k = i
   ·subst hki
    rw [if_pos rfl] at hj
    rw [if_pos rfl]
    exact qje (by simpa using hj)
   ·rw [if_neg hki]
  ·omega
 ·obtain rfl : i = s.chans.length := by omega
  refine ⟨Le.refl _, ⟨⟨rfl, rfl, by simp⟩, rfl, by simp, fun q hq => LeL.of_eq (qje (by simpa using hq))⟩, ⟨⟨rfl, rfl, by simp⟩, rfl, by simp, fun q hq => LeL.of_eq (qje (by simpa using hq))⟩, qba (fun _ _ => rfl), qek (fun _ _ => rfl) (fun _ _ => rfl) (fun _ _ _ _ => rfl), trivial⟩
end Go.Proofs.YtdoaagphhjggbaaGreat
end
