/- Some texts of the library, one behind the other. -/
import Derived.Test.YtdoaagphhjggbaaGreatQ33
import Derived.Test.YtdoaagphhjggbaaGreatQ34
import Derived.Test.YtdoaagphhjggbaaGreatQ32
import Derived.Test.YtdoaagphhjggbaaGreatQ31
import Derived.Test.YtdoaagphhjggbaaGreatQ2
section
namespace Go.Proofs.YtdoaagphhjggbaaGreat
open List renaming getD_eq_getElem?_getD → zd
open Go Go.Sx Go.RowKit Go.St
set_option maxRecDepth 100000
set_option maxHeartbeats 4000000
theorem qrx (m : Md) (s : Stt) (c : Nat) : qeo m s c = (if (m.chans.getD c ch0).lossy = true ∧ 0 < (s.chans.getD c []).length then [⟨1, 0, 0, c⟩] else []) ++ (if ((m.chans.getD c ch0).copying = true ∧ 0 < (s.chans.getD c []).length) ∧ ((s.chans.getD c []).length : Int) < (m.chans.getD c ch0).room then [⟨2, 0, 0, c⟩] else []) := by
 unfold qeo qiv qhu qlen room
 simp only [Int.toNat_natCast, Bool.and_eq_true, decide_eq_true_eq, Int.natCast_pos]
theorem jeh (m : Md) (hM : ModOk m) (s : Stt) (hf : qh m s = true) : Con Tryz.prog 15 [m.av, s.av] (qbx (qce m s)) := by
 have hs := qbo hM hf
 have h0 := ((je m s).1 hf).1
 have hz := hM.sz
 have hpl := qrw m hM s
 have hcl := h0.2.2.1
 have hpz := hM.psz
 have hh := h0.2.2.2.1
 refine zK {owns := [(5, (51, 4))]} 300 Tryz.func15 (fun c0 rdb => ?_)
 ((conv => whnf); refine qk (fun _ => rfl) 300 1 (fun i : Nat => [(6, iv i), (5, .own 2 0 0 (qp m s i).length)]) (fun i => [(2, .row [] 51 4 0 (qp m s i).length (encL Mv.cells {} (qp m s i)))]) (fun i => i ≤ m.procs.length) (fun i => m.procs.length - i) (0) (Nat.zero_le _) qa ⟨qaw (fun k hk => absurd hk (Nat.not_lt_zero k)), trivial⟩ (fun _ => rfl) (by kernel_rfl) ?_; (conv => whnf))
 intro i hi
 have hpi := hpl i hi
 (repeat' ((conv => whnf); first | refine Ob.auto ?_ | (apply zB <;> intro hb <;> (try simp [-zd] at hb) <;> try (exfalso; omega))))
 ·have hp1 : qp m s (i + 1) = qp m s i := by rw [qos, if_pos ⟨by omega, by omega⟩, List.append_nil]
  ((conv => whnf); refine ⟨i + 1, by omega, ⟨⟨Le.refl _, qgf hp1.symm 2, trivial⟩, ⟨qee Mv.cells {} hp1.symm, trivial⟩⟩, ⟨qa, qa⟩, ?_⟩; (first | omega | (dsimp only; omega) | skip))
 ·have hp1 : qp m s (i + 1) = qp m s i ++ qht m s i := by rw [qos, if_neg (fun h => by omega)]
  have hil : i < m.procs.length := by assumption
  have hpe := (hpz _ (qj m.procs i pr0 hil)).1
  have hel : (edgesOf m i).length ≤ 40000 := hpe
  have he0 : qp m s i ++ qbp m s i 0 = qp m s i := List.append_nil _
  ((conv => whnf); refine qk (fun _ => rfl) 300 2 (fun j : Nat => [(7, iv j), (5, .own 2 0 0 (qp m s i ++ qbp m s i j).length)]) (fun j => [(2, .row [] 51 4 0 (qp m s i ++ qbp m s i j).length (encL Mv.cells {} (qp m s i ++ qbp m s i j)))]) (fun j => j ≤ (edgesOf m i).length) (fun j => (edgesOf m i).length - j) (0) (Nat.zero_le _) ⟨Le.refl _, qgf he0.symm 2, trivial⟩ ⟨qee Mv.cells {} he0.symm, trivial⟩ (fun _ => rfl) (by kernel_rfl) ?_; (conv => whnf))
  intro j hj
  have hen := qwi m s i j
  have hsum : (qp m s i ++ qbp m s i j).length ≤ 200000 := by rw [List.length_append]; omega
  generalize hL : qp m s i ++ qbp m s i j = L at hsum ⊢
  (repeat' ((conv => whnf); first | refine Ob.auto ?_ | (apply zB <;> intro hb <;> (try simp [-zd] at hb) <;> try (exfalso; omega))))
  ·have hjl : j < (edgesOf m i).length := by assumption
   ((conv => whnf); refine zQ 300 ?_)
   (repeat' ((conv => whnf); first | refine zA ?_ | refine Ob.auto ?_ | (refine CallY.con (jdx m hM.ok s hf i hil ((edgesOf m i).getD j ed0) (edOk hM hil hjl)) (by rfl) leA ?_) | (apply zB <;> intro hb <;> (try simp [-zd] at hb) <;> try (exfalso; omega))))
   ·have hE : L ++ [⟨0, i, j, 0⟩] = qp m s i ++ qbp m s i (j + 1) := by rw [qru, if_pos hb, ← List.append_assoc, hL]
    ((conv => whnf); refine ⟨j + 1, hjl, ⟨⟨Le.refl _, qge hE 2, trivial⟩, ⟨qer Mv.cells {} hE rfl, trivial⟩⟩, ⟨qa, qa⟩, ?_⟩; (first | omega | (dsimp only; omega) | skip))
   ·have hE : L = qp m s i ++ qbp m s i (j + 1) := by rw [qru, if_neg (by rw [hb]; decide), List.append_nil, hL]
    ((conv => whnf); refine ⟨j + 1, hjl, ⟨⟨Le.refl _, qgf hE 2, trivial⟩, ⟨qee Mv.cells {} hE, trivial⟩⟩, ⟨qa, qa⟩, ?_⟩; (first | omega | (dsimp only; omega) | skip))
  ·have hjl : (edgesOf m i).length ≤ j := by assumption
   obtain rfl : j = (edgesOf m i).length := by omega
   rw [jee, ← hp1] at hL
   ((conv => whnf); refine ⟨i + 1, hil, ⟨⟨Le.refl _, qgf hL.symm 2, trivial⟩, ⟨qee Mv.cells {} hL.symm, trivial⟩⟩, ⟨qa, qa⟩, ?_⟩; (first | omega | (dsimp only; omega) | skip))
 ·obtain rfl : i = m.procs.length := by omega
  have he0 : qp m s m.procs.length ++ qau m s 0 = qp m s m.procs.length := List.append_nil _
  ((conv => whnf); refine qk (fun _ => rfl) 300 2 (fun c : Nat => [(8, iv c), (5, .own 2 0 0 (qp m s m.procs.length ++ qau m s c).length)]) (fun c => [(2, .row [] 51 4 0 (qp m s m.procs.length ++ qau m s c).length (encL Mv.cells {} (qp m s m.procs.length ++ qau m s c)))]) (fun c => c ≤ m.chans.length ∧ (s.holder = -1 ∨ c = 0)) (fun c => m.chans.length - c) (0) (⟨Nat.zero_le _, .inr rfl⟩) ⟨Le.refl _, qgf he0.symm 2, trivial⟩ ⟨qee Mv.cells {} he0.symm, trivial⟩ (fun _ => rfl) (by kernel_rfl) ?_; (conv => whnf))
  rintro c ⟨hc, hc2⟩
  have hcn := qrv m s c
  have hsum : (qp m s m.procs.length ++ qau m s c).length ≤ 200000 := by rw [List.length_append]; omega
  generalize hL : qp m s m.procs.length ++ qau m s c = L at hsum ⊢
  (repeat' ((conv => whnf); first | refine Ob.auto ?_ | (apply zB <;> intro hb <;> (try simp [-zd] at hb) <;> try (exfalso; omega))))
  ·have hE : L ++ [⟨1, 0, 0, c⟩, ⟨2, 0, 0, c⟩] = qp m s m.procs.length ++ qau m s (c + 1) := by rw [qif, ← List.append_assoc, hL]; rw [qrx, if_pos (by assumption), if_pos (by assumption)]; rfl
   ((conv => whnf); refine ⟨c + 1, ⟨by omega, .inl (by omega)⟩, ⟨⟨Le.refl _, jeg hE 2, trivial⟩, ⟨jef Mv.cells {} hE rfl rfl, trivial⟩⟩, ⟨qa, qa⟩, ?_⟩; (first | omega | (dsimp only; omega) | skip))
  ·have hE : L ++ [⟨1, 0, 0, c⟩] = qp m s m.procs.length ++ qau m s (c + 1) := by rw [qif, ← List.append_assoc, hL]; rw [qrx, if_pos (by assumption), if_neg (fun h => by have := (by assumption : (m.chans.getD c ch0).copying = true → 0 < (s.chans.getD c []).length → (m.chans.getD c ch0).room ≤ ((s.chans.getD c []).length : Int)) h.1.1 h.1.2; omega)]; rfl
   ((conv => whnf); refine ⟨c + 1, ⟨by omega, .inl (by omega)⟩, ⟨⟨Le.refl _, qge hE 2, trivial⟩, ⟨qer Mv.cells {} hE rfl, trivial⟩⟩, ⟨qa, qa⟩, ?_⟩; (first | omega | (dsimp only; omega) | skip))
  ·have hE : L ++ [⟨2, 0, 0, c⟩] = qp m s m.procs.length ++ qau m s (c + 1) := by rw [qif, ← List.append_assoc, hL]; rw [qrx, if_neg (fun h => by have e := (by assumption : (m.chans.getD c ch0).lossy = true → s.chans.getD c [] = []) h.1; rw [e] at h; exact absurd h.2 (Nat.lt_irrefl 0)), if_pos (by assumption)]; rfl
   ((conv => whnf); refine ⟨c + 1, ⟨by omega, .inl (by omega)⟩, ⟨⟨Le.refl _, qge hE 2, trivial⟩, ⟨qer Mv.cells {} hE rfl, trivial⟩⟩, ⟨qa, qa⟩, ?_⟩; (first | omega | (dsimp only; omega) | skip))
  ·have hE : L = qp m s m.procs.length ++ qau m s (c + 1) := by rw [qif, ← List.append_assoc, hL]; rw [qrx, if_neg (fun h => by have e := (by assumption : (m.chans.getD c ch0).lossy = true → s.chans.getD c [] = []) h.1; rw [e] at h; exact absurd h.2 (Nat.lt_irrefl 0)), if_neg (fun h => by have := (by assumption : (m.chans.getD c ch0).copying = true → 0 < (s.chans.getD c []).length → (m.chans.getD c ch0).room ≤ ((s.chans.getD c []).length : Int)) h.1.1 h.1.2; omega)]; simp
   ((conv => whnf); refine ⟨c + 1, ⟨by omega, .inl (by omega)⟩, ⟨⟨Le.refl _, qgf hE 2, trivial⟩, ⟨qee Mv.cells {} hE, trivial⟩⟩, ⟨qa, qa⟩, ?_⟩; (first | omega | (dsimp only; omega) | skip))
  ·have hmv : qce m s = qp m s m.procs.length ++ qau m s c := by
    unfold qce
    by_cases hho : s.holder = -1
    ·obtain rfl : c = m.chans.length := by omega
     rw [if_pos hho]; rfl
    ·obtain rfl : c = 0 := hc2.resolve_left hho
     rw [if_neg hho]; rfl
   rw [hmv, hL]
   exact Le.refl _
end Go.Proofs.YtdoaagphhjggbaaGreat
end
section
namespace Go.Proofs.YtdoaagphhjggbaaGreat
open Go Go.Sx Go.RowKit Go.St
set_option maxRecDepth 100000
set_option maxHeartbeats 4000000
def qry (m : Md) (s : Stt) (i : Nat) : Bool := (List.range i).all fun j => (m.procs.getD j pr0).rest.getD (s.at_.getD j 0).toNat false
theorem jrg (m : Md) (s : Stt) (i : Nat) : qry m s (i + 1) = (qry m s i && (m.procs.getD i pr0).rest.getD (s.at_.getD i 0).toNat false) := by
 unfold qry
 rw [List.range_succ, List.all_append]; simp
theorem jrh (m : Md) (hM : ModOk m) (s : Stt) (hf : qh m s = true) : Con Tryz.prog 17 [m.av, s.av] (.bool (qnn m s)) := by
 have hmv := jeh m hM s hf
 have h0 := (je m s).1 hf
 have hz := hM.sz
 have hr := fun (q : Pr) hq => (hM.pr q hq).rl
 have hat := h0.1.1
 have hfa := h0.2.1
 unfold qnn
 refine zK {} 300 Tryz.func17 (fun c0 rdb => ?_)
 ((conv => whnf); refine qk (fun _ => rfl) 300 1 (fun i : Nat => [(6, iv i), (5, .bool (qry m s i))]) (fun _ => []) (fun i => i ≤ m.procs.length) (fun i => m.procs.length - i) (0) (Nat.zero_le _) qa qa (fun _ => rfl) (by kernel_rfl) ?_; (conv => whnf))
 intro i hi
 have hri : i < m.procs.length → 0 ≤ s.at_.getD i 0 ∧ s.at_.getD i 0 < ((m.procs.getD i pr0).rest.length : Int) := fun h => by
  have h1 := hfa i (by omega)
  have h2 := hr _ (qj m.procs i pr0 h)
  unfold qkd at h1
  omega
 (repeat' ((conv => whnf); first | refine zO ?_ | refine Ob.auto ?_ | refine zC 300 (hmv) ?_ | refine zD 300 ?_ | (apply zB <;> intro hb <;> (try simp [-List.getD_eq_getElem?_getD] at hb) <;> try (exfalso; omega))))
 ·((conv => whnf); refine ⟨i + 1, by omega, ⟨⟨Le.refl _, Le.of_eq (congrArg AV.bool (jrg m s i).symm), trivial⟩, qa⟩, ⟨qa, qa⟩, ?_⟩; (first | omega | (dsimp only; omega) | skip))
 ·obtain rfl : i = m.procs.length := by omega
  refine Le.of_eq (congrArg AV.bool ?_)
  have e : (((qce m s).length : Int) == 0) = (qce m s).isEmpty := by
   cases qce m s with
   | nil => rfl
   | cons a b => simp; omega
  rw [e]; rfl
theorem jri (m : Md) (hM : ModOk m) (s : Stt) (hf : qh m s = true) : Con Tryz.prog 19 [m.av, s.av] (.bool (badB m s)) := by
 have hsf := jqq m hM.ok s (qkr hM.ok hf)
 have hdd := jrh m hM s hf
 unfold badB
 refine zK {} 300 Tryz.func19 (fun c0 rdb => ?_)
 (repeat' ((conv => whnf); first | refine Ob.auto ?_ | refine zC 300 (hsf) ?_ | refine zG 300 (fun hg => hdd) ?_ | fail))
 exact Le.refl _
theorem jrj {a b : Mv} (h : a.kind = b.kind ∧ a.proc = b.proc ∧ a.edge = b.edge ∧ a.chn = b.chn) : a = b := by
 cases a; cases b; simp_all
theorem qwj {k i : Nat} (h : k ≠ i) : (k < i + 1) = (k < i) := propext ⟨fun _ => by omega, fun _ => by omega⟩
theorem qjf {f g : Nat → List AV} {m q : Nat} (hq : q < m) : appF 0 f m g q = g q := by
 unfold appF
 rw [if_neg (by omega), if_pos (by omega), Nat.sub_zero]
theorem jei (l : List Int) (hl : l.length ≤ 1000000) : Con Tryz.prog 81 [ints l] (ints l) := by
 refine zK {} 300 Tryz.func81 (fun c0 rdb => ?_)
 (repeat' ((conv => whnf); first | refine Ob.auto ?_ | (refine Ob.intro (by ((refine ⟨by omega, by omega, by omega, ?_⟩; dsimp only; refine Int.le_trans (Int.mul_le_mul_of_nonneg_right (?_ : _ ≤ (4000001 : Int)) (Int.natCast_nonneg _)) (by decide +kernel); omega))) ?_) | fail))
 exact Le.slc (by simp) (fun q hq => qjf (by simpa using hq))
theorem qks (l : List Int) (hl : l.length ≤ 1000000) : Trip Tryz.prog 81 [ints l] [] (.own 0 0 0 l.length) [(0, .row [] 3 1 0 l.length (encL (fun n => [iv n]) 0 l))] 1 := by
 refine zL {} 300 Tryz.func81 (fun c0 rdb mpb => ?_)
 (repeat' ((conv => whnf); first | refine Ob.auto ?_ | (refine Ob.intro (by ((refine ⟨by omega, by omega, by omega, ?_⟩; dsimp only; refine Int.le_trans (Int.mul_le_mul_of_nonneg_right (?_ : _ ≤ (4000001 : Int)) (Int.natCast_nonneg _)) (by decide +kernel); omega))) ?_) | fail))
 refine ⟨Le.of_eq (by simp), ⟨⟨rfl, rfl, by simp⟩, rfl, by simp, fun q hq => LeL.of_eq (qjf (by simpa using hq))⟩, trivial⟩
theorem jej (s : Stt) (hs : SSz s) : Trip Tryz.prog 51 [s.av] [] (.agg [.own 4 0 0 s.at_.length, .own 8 0 0 s.vars.length, .own 13 0 0 s.chans.length, iv s.holder])
  [(4, .row [] 3 1 0 s.at_.length (encL (fun n => [iv n]) 0 s.at_)), (8, .row [] 3 1 0 s.vars.length (encL (fun n => [iv n]) 0 s.vars)), (13, .row [] 23 1 0 s.chans.length (encL (fun c => [ints c]) [] s.chans))] 14 := by
 have ha := hs.a
 have hv := hs.v
 have hc := hs.c
 have hl := hs.l
 refine zL {} 300 Tryz.func51 (fun c0 rdb mpb => ?_)
 ((conv => whnf); refine qav (fun _ => rfl) (by kernel_rfl) 300 [.new [ints s.at_] (.own 0 0 0 s.at_.length) [(0, .row [] 3 1 0 s.at_.length (encL (fun n => [iv n]) 0 s.at_))] 1, .new [ints s.vars] (.own 0 0 0 s.vars.length) [(0, .row [] 3 1 0 s.vars.length (encL (fun n => [iv n]) 0 s.vars))] 1] (by kernel_rfl) ?_)
 (repeat' ((conv => whnf); first | refine Ob.auto ?_ | (refine Ob.intro (by (first | (refine ⟨by omega, by omega, by omega, ?_⟩; dsimp only; refine Int.le_trans (Int.mul_le_mul_of_nonneg_right (?_ : _ ≤ (4000001 : Int)) (Int.natCast_nonneg _)) (by decide +kernel); omega) | exact ⟨qks s.at_ hs.a, by rfl, LeL.refl _, by kernel_rfl, by kernel_rfl, by exact qb rfl⟩ | exact ⟨qks s.vars hs.v, by rfl, LeL.refl _, by kernel_rfl, by kernel_rfl, by exact qb rfl⟩)) ?_) | fail))
 ((conv => whnf); refine qk (fun _ => rfl) 300 1 (fun i : Nat => [(22, iv i)]) (fun i => [(13, .row [] 23 1 0 s.chans.length (fun k => [if k < i then ints (s.chans.getD k []) else .nils]))]) (fun i => i ≤ s.chans.length) (fun i => s.chans.length - i) (0) (by omega) qa ⟨qaw (fun k _ => by rw [if_neg (Nat.not_lt_zero k)]; rfl), trivial⟩ (fun _ => rfl) (by kernel_rfl) ?_; (conv => whnf))
 intro i hi
 (repeat' ((conv => whnf); first | refine Ob.auto ?_ | (apply zB <;> intro hb <;> (try simp [-List.getD_eq_getElem?_getD] at hb) <;> try (exfalso; omega))))
 ·((conv => whnf); refine qav (fun _ => rfl) (by kernel_rfl) 300 [.con (ints (s.chans.getD i []))] (by kernel_rfl) ?_)
  (repeat' ((conv => whnf); first | refine Ob.auto ?_ | (refine Ob.intro (by (first | exact ⟨by omega, by omega⟩ | exact ⟨_, jei (s.chans.getD i []) (hl _ (qj _ _ _ (by omega))), by rfl, LeL.refl _⟩)) ?_) | fail))
  ((conv => whnf); refine ⟨i + 1, by omega, ⟨qa, qa⟩, ⟨qa, qa⟩, ?_⟩; (first | omega | (dsimp only; omega) | skip))
 ·obtain rfl : i = s.chans.length := by omega
  exact ⟨Le.refl _, ⟨⟨rfl, rfl, rfl⟩, rfl, rfl, fun q hq => LeL.refl _⟩, ⟨⟨rfl, rfl, rfl⟩, rfl, rfl, fun q hq => LeL.refl _⟩, qaw (fun k hk => by rw [if_pos (by simpa using hk)]; rfl), trivial⟩
theorem jek (s : Stt) (hs : SSz s) : Trip Tryz.prog 51 [s.av] [] (.agg [.own 4 0 0 s.at_.length, .own 8 0 0 s.vars.length, .own 13 0 0 s.chans.length, iv s.holder])
  [(4, .row [] 3 1 0 s.at_.length (encL (fun n => [iv n]) 0 s.at_)), (8, .row [] 3 1 0 s.vars.length (encL (fun n => [iv n]) 0 s.vars)), (13, .row [19] 23 1 0 s.chans.length (fun k => [.own 19 k 1 (s.chans.getD k []).length])),
   (19, .fam 3 1 s.chans.length (fun _ => 1) (fun k => (s.chans.getD k []).length) (fun k => encL (fun n => [iv n]) 0 (s.chans.getD k [])))] 20 := by
 have ha := hs.a
 have hv := hs.v
 have hc := hs.c
 have hl := hs.l
 refine zL {} 300 Tryz.func51 (fun c0 rdb mpb => ?_)
 ((conv => whnf); refine qav (fun _ => rfl) (by kernel_rfl) 300 [.new [ints s.at_] (.own 0 0 0 s.at_.length) [(0, .row [] 3 1 0 s.at_.length (encL (fun n => [iv n]) 0 s.at_))] 1, .new [ints s.vars] (.own 0 0 0 s.vars.length) [(0, .row [] 3 1 0 s.vars.length (encL (fun n => [iv n]) 0 s.vars))] 1] (by kernel_rfl) ?_)
 (repeat' ((conv => whnf); first | refine Ob.auto ?_ | (refine Ob.intro (by (first | (refine ⟨by omega, by omega, by omega, ?_⟩; dsimp only; refine Int.le_trans (Int.mul_le_mul_of_nonneg_right (?_ : _ ≤ (4000001 : Int)) (Int.natCast_nonneg _)) (by decide +kernel); omega) | exact ⟨qks s.at_ hs.a, by rfl, LeL.refl _, by kernel_rfl, by kernel_rfl, by exact qb rfl⟩ | exact ⟨qks s.vars hs.v, by rfl, LeL.refl _, by kernel_rfl, by kernel_rfl, by exact qb rfl⟩)) ?_) | fail))
 refine qzj 13 3 1 rfl (fun _ _ => rfl) ?_
 ((conv => whnf); refine jeb (fun _ => rfl) 300 1 (fun i : Nat => [(22, iv i)]) (fun i => [(13, .row [19] 23 1 0 s.chans.length (fun k => [.own 19 k (if k < i then 1 else 0) (if k < i then (s.chans.getD k []).length else 0)])), (19, .fam 3 1 s.chans.length (fun k => if k < i then 1 else 0) (fun k => if k < i then (s.chans.getD k []).length else 0) (fun k => encL (fun n => [iv n]) 0 (s.chans.getD k [])))]) (fun i => i ≤ s.chans.length) (fun i => s.chans.length - i) (0) (by omega) qa ⟨qaw (fun k _ => by rw [if_neg (Nat.not_lt_zero k), if_neg (Nat.not_lt_zero k)]), qem (fun k _ => by rw [if_neg (Nat.not_lt_zero k)]) (fun k _ => by rw [if_neg (Nat.not_lt_zero k)]) (fun k j _ hj => absurd hj (Nat.not_lt_zero _)), trivial⟩ (fun _ => rfl) (by kernel_rfl) ?_; (conv => whnf))
 intro i hi
 (repeat' ((conv => whnf); first | refine Ob.auto ?_ | (apply zB <;> intro hb <;> (try simp [-List.getD_eq_getElem?_getD] at hb) <;> try (exfalso; omega))))
 ·have hci := hl _ (qj s.chans i [] (by omega))
  ((conv => whnf); refine qav (fun _ => rfl) (by kernel_rfl) 300 [.new [ints (s.chans.getD i [])] (.own 0 0 0 (s.chans.getD i []).length) [(0, .row [] 3 1 0 (s.chans.getD i []).length (encL (fun n => [iv n]) 0 (s.chans.getD i [])))] 1] (by kernel_rfl) ?_)
  (repeat' ((conv => whnf); first | refine Ob.auto ?_ | (refine Ob.intro (by (first | exact ⟨by omega, by omega⟩ | exact ⟨qks _ hci, by rfl, LeL.refl _, by kernel_rfl, by kernel_rfl, by exact qb rfl⟩)) ?_) | fail))
  ((conv => whnf); refine ⟨i + 1, by omega, ⟨_, Turn.absorb 13 19 24 i rfl rfl rfl (by omega) (by decide) (by exact if_pos rfl) (fun k _ hne => ⟨_, _, if_neg hne⟩), ⟨qa, ⟨qaw (fun k _ => ?_), qem (fun k _ => ?_) (fun k _ => ?_) (fun k j _ hj => ?_), trivial⟩⟩, ⟨qa, qa⟩⟩, ?_⟩; (first | omega | (dsimp only; omega) | skip))
  ·by_cases hki : k = i
   ·subst hki
    refine (if_pos rfl).trans ?_
    simp
   ·refine (if_neg hki).trans ((if_neg hki).trans ?_)
    simp only [qwj hki]
  ·unfold upd
   by_cases hki : k = i
   ·subst hki; simp
   ·rw [if_neg hki]; simp only [qwj hki]
  ·unfold upd
   by_cases hki : k = i
   ·subst hki; simp
   ·rw [if_neg hki]; simp only [qwj hki]
  ·unfold upd
   by_cases hki : k = i
   ·subst hki; rw [if_pos rfl]
   ·rw [if_neg hki]
  ·omega
 ·obtain rfl : i = s.chans.length := by omega
  exact ⟨Le.refl _, ⟨⟨rfl, rfl, rfl⟩, rfl, rfl, fun q hq => LeL.refl _⟩, ⟨⟨rfl, rfl, rfl⟩, rfl, rfl, fun q hq => LeL.refl _⟩, qaw (fun k hk => by rw [if_pos hk, if_pos hk]), qem (fun k hk => by rw [if_pos hk]) (fun k hk => by rw [if_pos hk]) (fun _ _ _ _ => rfl), trivial⟩
end Go.Proofs.YtdoaagphhjggbaaGreat
end
