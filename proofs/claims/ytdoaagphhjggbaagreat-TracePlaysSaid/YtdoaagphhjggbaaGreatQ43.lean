/- Some texts of the library, one behind the other. -/
import Derived.Test.YtdoaagphhjggbaaGreatQ42
import Derived.Test.YtdoaagphhjggbaaGreatQ39
import Derived.Test.YtdoaagphhjggbaaGreatQ41
import Derived.Test.YtdoaagphhjggbaaGreatQ32
import Derived.Test.YtdoaagphhjggbaaGreatQ28
import Derived.Test.YtdoaagphhjggbaaGreatQ4
import Derived.Test.YtdoaagphhjggbaaGreatQ2
section
namespace Go.Proofs.YtdoaagphhjggbaaGreat
open List renaming getD_eq_getElem?_getD → zd
open Go Go.Sx Go.RowKit Go.St
set_option maxRecDepth 100000
set_option maxHeartbeats 4000000
theorem jti {m : Md} {s : Stt} {v : Mv} (h : jl m s v = true) : (v.kind = 1 ∧ (0 ≤ v.chn ∧ v.chn < m.chans.length) ∧ 0 < (s.chans.getD v.chn.toNat []).length) ∨ (v.kind = 2 ∧ (0 ≤ v.chn ∧ v.chn < m.chans.length) ∧ 0 < (s.chans.getD v.chn.toNat []).length) ∨ (v.kind = 0 ∧ (0 ≤ v.proc ∧ v.proc < m.procs.length) ∧ (0 ≤ v.edge ∧ v.edge < (m.procs.getD v.proc.toNat pr0).edges.length) ∧ canB m s v.proc.toNat ((m.procs.getD v.proc.toNat pr0).edges.getD v.edge.toNat ed0) = true) := by
 cases qsb h with
 | lose c hc hq => exact .inl ⟨rfl, ⟨Int.natCast_nonneg _, Int.ofNat_lt.2 hc⟩, hq⟩
 | copy c hc hq => exact .inr (.inl ⟨rfl, ⟨Int.natCast_nonneg _, Int.ofNat_lt.2 hc⟩, hq⟩)
 | edge P e hP he hcan => exact .inr (.inr ⟨rfl, ⟨Int.natCast_nonneg _, Int.ofNat_lt.2 hP⟩, ⟨Int.natCast_nonneg _, Int.ofNat_lt.2 he⟩, hcan⟩)
theorem jtj {m : Md} (hM : ModOk m) {s : Stt} {v : Mv} (h : jl m s v = true) (hk : v.kind = 0) (h2 : (edOf m v).act = 2) (hl : s.chans.length = m.chans.length) : 0 < ((qz m s v).chans.getD (edOf m v).chn.toNat []).length := by
 cases qsb h with
 | lose c hc hq => simp at hk
 | copy c hc hq => simp at hk
 | edge P e hP he hcan =>
  have hed := edOk hM hP he
  have hte : edOf m ⟨0, P, e, 0⟩ = (edgesOf m P).getD e ed0 := rfl
  rw [hte] at h2 ⊢
  rw [jfa]
  generalize (edgesOf m P).getD e ed0 = d at h2 hed ⊢
  have hch := hed.chn (.inl h2)
  unfold qcf qn
  simp only
  rw [if_neg (by omega), if_pos h2]
  simp only
  rw [qgc, if_pos ⟨rfl, by omega⟩, List.length_append]
  exact Nat.succ_pos _
theorem jtk (m : Md) (hM : ModOk m) (h0 : qh m (qu m) = true) (l : List Mv) (hl : l.length ≤ 1000000) : Con Tryz.prog 63 [m.av, qbx l] (evsV (qdf m l)) := by
 have hst := qwl m hM h0 l hl
 have hn := qro m l
 have hlen : (qbf m l).length = nF m l + 1 := by simp [qbf]
 have hget : ∀ i, i ≤ nF m l → (qbf m l).getD i st0z = stN m l i := fun i hi => by unfold qbf; rw [qqr _ _ _ _ (by omega)]
 generalize qbf m l = A at hst hlen hget
 have hEl := qsa m l
 refine zK {lit := true, owns := [(6, (70, 6))]} 300 Tryz.func63 (fun c0 rdb => ?_)
 (repeat' ((conv => whnf); first | refine zC 300 (hst) ?_ | fail))
 ((conv => whnf); refine qk (fun _ => rfl) 300 1 (fun i : Nat => [(7, iv i), (6, .own 1 0 0 (evN m l i).length)]) (fun i => [(1, .row [] 70 6 0 (evN m l i).length (encL Ev.cells {} (evN m l i)))]) (fun i => i ≤ nF m l) (fun i => nF m l - i) (0) (Nat.zero_le _) qa ⟨qaw (fun k hk => absurd hk (Nat.not_lt_zero k)), trivial⟩ (fun _ => rfl) (by kernel_rfl) ?_; (conv => whnf))
 intro i hi
 have hEi := hEl i
 by_cases hin : i < nF m l
 ·have hok : jl m (stN m l i) (l.getD i {}) = true := hn.2.1 i hin
  have hf := qgd hM h0 (fun j hj => hn.2.1 j (by omega : j < nF m l)) (i := i)
  have hA := hget i (by omega)
  have hcl := ((je m _).1 hf).1.2.2.1
  have hEn : evN m l (i + 1) = evN m l i ++ (evOf m (stN m l i) (stN m l (i + 1)) i (l.getD i {}) (evN m l i)).toList := rfl
  have hfr := fun c => jtf (evN m l i) (by omega) c
  generalize evN m l i = E at hEi hEn hfr ⊢
  rcases jti hok with ⟨hk, hc, hq⟩ | ⟨hk, hc, hq⟩ | ⟨hk, hP, he, hcan⟩
  ·rw [← hA] at hq hcl
   have hk1 : inR .i64 ((l.getD i {}).kind + 1) := ⟨show (-9223372036854775808 : Int) ≤ (l.getD i {}).kind + 1 by omega, show (l.getD i {}).kind + 1 ≤ 9223372036854775807 by omega⟩
   have hfc := hfr (l.getD i {}).chn
   have hE1 : E ++ [⟨(l.getD i {}).kind + 1, i, -1, (l.getD i {}).chn, ((A.getD i st0z).chans.getD (l.getD i {}).chn.toNat []).getD 0 0, qap E (l.getD i {}).chn⟩] = evN m l (i + 1) := by
    rw [hEn, hA]
    unfold evOf qax
    rw [if_pos hk]
    rw [hk]; rfl
   (repeat' ((conv => whnf); first | refine zO ?_ | refine Ob.auto ?_ | refine zE 300 (hfc) ?_ | refine zD 300 ?_ | (apply zB <;> intro hb <;> (try simp [-zd] at hb) <;> try (exfalso; omega))))
   ((conv => whnf); refine ⟨i + 1, by omega, ⟨⟨Le.refl _, qge hE1 1, trivial⟩, ⟨qer Ev.cells {} hE1 rfl, trivial⟩⟩, ⟨qa, qa⟩, ?_⟩; (first | omega | (dsimp only; omega) | skip))
  ·rw [← hA] at hq hcl
   have hk1 : inR .i64 ((l.getD i {}).kind + 1) := ⟨show (-9223372036854775808 : Int) ≤ (l.getD i {}).kind + 1 by omega, show (l.getD i {}).kind + 1 ≤ 9223372036854775807 by omega⟩
   have hfc := hfr (l.getD i {}).chn
   have hE1 : E ++ [⟨(l.getD i {}).kind + 1, i, -1, (l.getD i {}).chn, ((A.getD i st0z).chans.getD (l.getD i {}).chn.toNat []).getD 0 0, qap E (l.getD i {}).chn⟩] = evN m l (i + 1) := by
    rw [hEn, hA]
    unfold evOf qax
    rw [if_neg (by omega), if_pos hk]
    rw [hk]; rfl
   (repeat' ((conv => whnf); first | refine zO ?_ | refine Ob.auto ?_ | refine zE 300 (hfc) ?_ | refine zD 300 ?_ | (apply zB <;> intro hb <;> (try simp [-zd] at hb) <;> try (exfalso; omega))))
   ((conv => whnf); refine ⟨i + 1, by omega, ⟨⟨Le.refl _, qge hE1 1, trivial⟩, ⟨qer Ev.cells {} hE1 rfl, trivial⟩⟩, ⟨qa, qa⟩, ?_⟩; (first | omega | (dsimp only; omega) | skip))
  ·have hed := edOk hM (p := (l.getD i {}).proc.toNat) (i := (l.getD i {}).edge.toNat) (by omega) (show (l.getD i {}).edge.toNat < (m.procs.getD (l.getD i {}).proc.toNat pr0).edges.length by omega)
   have hedd : EdOk m.tree.length m.vars.length m.chans.length (m.procs.getD (l.getD i {}).proc.toNat pr0).places ((m.procs.getD (l.getD i {}).proc.toNat pr0).edges.getD (l.getD i {}).edge.toNat ed0) := hed
   have hfc := hfr ((m.procs.getD (l.getD i {}).proc.toNat pr0).edges.getD (l.getD i {}).edge.toNat ed0).chn
   by_cases h2 : ((m.procs.getD (l.getD i {}).proc.toNat pr0).edges.getD (l.getD i {}).edge.toNat ed0).act = 2
   ·have hch := hedd.chn (.inl h2)
    have hB := hget (i + 1) (by omega)
    have hf1 := qgd hM h0 (fun j hj => hn.2.1 j (by omega : j < nF m l)) (i := i + 1)
    have htl := ((je m _).1 hf1).1.2.2.1
    have hpos := jtj hM hok hk h2 hcl
    have hb1 := (qbo hM hf1).l _ (qj _ ((m.procs.getD (l.getD i {}).proc.toNat pr0).edges.getD (l.getD i {}).edge.toNat ed0).chn.toNat [] (by omega))
    rw [show qz m (stN m l i) (l.getD i {}) = stN m l (i + 1) from rfl] at hpos
    have hpos : 0 < ((stN m l (i + 1)).chans.getD ((m.procs.getD (l.getD i {}).proc.toNat pr0).edges.getD (l.getD i {}).edge.toNat ed0).chn.toNat []).length := hpos
    rw [← hB] at htl hpos hb1
    have o1 : 0 ≤ ((m.procs.getD (l.getD i {}).proc.toNat pr0).edges.getD (l.getD i {}).edge.toNat ed0).chn ∧ ((m.procs.getD (l.getD i {}).proc.toNat pr0).edges.getD (l.getD i {}).edge.toNat ed0).chn < ((A.getD (i + 1) st0z).chans.length : Int) := by omega
    have o2 : inR .i64 ((((A.getD (i + 1) st0z).chans.getD ((m.procs.getD (l.getD i {}).proc.toNat pr0).edges.getD (l.getD i {}).edge.toNat ed0).chn.toNat []).length : Int) - 1) := ⟨show (-9223372036854775808 : Int) ≤ (((A.getD (i + 1) st0z).chans.getD ((m.procs.getD (l.getD i {}).proc.toNat pr0).edges.getD (l.getD i {}).edge.toNat ed0).chn.toNat []).length : Int) - 1 by omega, show (((A.getD (i + 1) st0z).chans.getD ((m.procs.getD (l.getD i {}).proc.toNat pr0).edges.getD (l.getD i {}).edge.toNat ed0).chn.toNat []).length : Int) - 1 ≤ 9223372036854775807 by omega⟩
    have o3 : 0 ≤ (((A.getD (i + 1) st0z).chans.getD ((m.procs.getD (l.getD i {}).proc.toNat pr0).edges.getD (l.getD i {}).edge.toNat ed0).chn.toNat []).length : Int) - 1 ∧ (((A.getD (i + 1) st0z).chans.getD ((m.procs.getD (l.getD i {}).proc.toNat pr0).edges.getD (l.getD i {}).edge.toNat ed0).chn.toNat []).length : Int) - 1 < (((A.getD (i + 1) st0z).chans.getD ((m.procs.getD (l.getD i {}).proc.toNat pr0).edges.getD (l.getD i {}).edge.toNat ed0).chn.toNat []).length : Int) := by omega
    have hE1 : E ++ [⟨0, i, (l.getD i {}).proc, ((m.procs.getD (l.getD i {}).proc.toNat pr0).edges.getD (l.getD i {}).edge.toNat ed0).chn, ((A.getD (i + 1) st0z).chans.getD ((m.procs.getD (l.getD i {}).proc.toNat pr0).edges.getD (l.getD i {}).edge.toNat ed0).chn.toNat []).getD ((((A.getD (i + 1) st0z).chans.getD ((m.procs.getD (l.getD i {}).proc.toNat pr0).edges.getD (l.getD i {}).edge.toNat ed0).chn.toNat []).length : Int) - 1).toNat 0, -1⟩] = evN m l (i + 1) := by
     rw [hEn, hB]
     unfold evOf qef
     rw [if_neg (by omega), if_neg (by omega), if_pos (show (edOf m (l.getD i {})).act = 2 from h2), show ∀ n : Nat, ((n : Int) - 1).toNat = n - 1 from fun n => by omega]
     rfl
    (repeat' ((conv => whnf); first | refine zO ?_ | refine Ob.auto ?_ | refine zD 300 ?_ | (apply zB <;> intro hb <;> (try simp [-zd] at hb) <;> try (exfalso; omega))))
    ((conv => whnf); refine ⟨i + 1, by omega, ⟨⟨Le.refl _, qge hE1 1, trivial⟩, ⟨qer Ev.cells {} hE1 rfl, trivial⟩⟩, ⟨qa, qa⟩, ?_⟩; (first | omega | (dsimp only; omega) | skip))
   ·by_cases h3 : ((m.procs.getD (l.getD i {}).proc.toNat pr0).edges.getD (l.getD i {}).edge.toNat ed0).act = 3
    ·have hch := hedd.chn (.inr h3)
     have hq : 0 < ((stN m l i).chans.getD ((m.procs.getD (l.getD i {}).proc.toNat pr0).edges.getD (l.getD i {}).edge.toNat ed0).chn.toNat []).length := qwp hcan h3
     rw [← hA] at hq hcl
     have o1 : 0 ≤ ((m.procs.getD (l.getD i {}).proc.toNat pr0).edges.getD (l.getD i {}).edge.toNat ed0).chn ∧ ((m.procs.getD (l.getD i {}).proc.toNat pr0).edges.getD (l.getD i {}).edge.toNat ed0).chn < ((A.getD i st0z).chans.length : Int) := by omega
     have o2 : (0 : Int) ≤ 0 ∧ 0 < (((A.getD i st0z).chans.getD ((m.procs.getD (l.getD i {}).proc.toNat pr0).edges.getD (l.getD i {}).edge.toNat ed0).chn.toNat []).length : Int) := by omega
     have hE1 : E ++ [⟨1, i, (l.getD i {}).proc, ((m.procs.getD (l.getD i {}).proc.toNat pr0).edges.getD (l.getD i {}).edge.toNat ed0).chn, ((A.getD i st0z).chans.getD ((m.procs.getD (l.getD i {}).proc.toNat pr0).edges.getD (l.getD i {}).edge.toNat ed0).chn.toNat []).getD 0 0, qap E ((m.procs.getD (l.getD i {}).proc.toNat pr0).edges.getD (l.getD i {}).edge.toNat ed0).chn⟩] = evN m l (i + 1) := by
      rw [hEn, hA]
      unfold evOf qax
      rw [if_neg (by omega), if_neg (by omega), if_neg (show ¬ (edOf m (l.getD i {})).act = 2 from h2), if_pos (show (edOf m (l.getD i {})).act = 3 from h3)]
      rfl
     (repeat' ((conv => whnf); first | refine zO ?_ | refine Ob.auto ?_ | refine zE 300 (hfc) ?_ | refine zD 300 ?_ | (apply zB <;> intro hb <;> (try simp [-zd] at hb) <;> try (exfalso; omega))))
     ((conv => whnf); refine ⟨i + 1, by omega, ⟨⟨Le.refl _, qge hE1 1, trivial⟩, ⟨qer Ev.cells {} hE1 rfl, trivial⟩⟩, ⟨qa, qa⟩, ?_⟩; (first | omega | (dsimp only; omega) | skip))
    ·have hE1 : E = evN m l (i + 1) := by
      rw [hEn]
      unfold evOf
      rw [if_neg (by omega), if_neg (by omega), if_neg (show ¬ (edOf m (l.getD i {})).act = 2 from h2), if_neg (show ¬ (edOf m (l.getD i {})).act = 3 from h3)]
      exact (List.append_nil _).symm
     clear hEn
     (repeat' ((conv => whnf); first | refine zO ?_ | refine Ob.auto ?_ | refine zD 300 ?_ | (apply zB <;> intro hb <;> (try simp [-zd] at hb) <;> try (exfalso; omega))))
     ((conv => whnf); refine ⟨i + 1, by omega, ⟨⟨Le.refl _, qgf hE1 1, trivial⟩, ⟨qee Ev.cells {} hE1, trivial⟩⟩, ⟨qa, qa⟩, ?_⟩; (first | omega | (dsimp only; omega) | skip))
 ·obtain rfl : i = nF m l := by omega
  (repeat' ((conv => whnf); first | refine Ob.auto ?_ | (apply zB <;> intro hb <;> (try simp [-zd] at hb) <;> try (exfalso; omega))))
  exact Le.refl _
set_option maxHeartbeats 2000000
theorem qws (a b : List Int) (ha : a.length ≤ 1000000) : Con Tryz.prog 53 [ints a, ints b] (.bool (a == b)) := by
 refine zK {} 300 Tryz.func53 (fun c0 rdb => ?_)
 (repeat' ((conv => whnf); first | refine Ob.auto ?_ | (apply zB <;> intro hb <;> (try simp [-zd] at hb) <;> try (exfalso; omega))))
 ·refine Le.of_eq (congrArg AV.bool ?_)
  exact (beq_eq_false_iff_ne.2 (fun h => by subst h; simp at hb)).symm
 ·((conv => whnf); refine qk (fun _ => rfl) 300 1 (fun i : Nat => [(5, iv i)]) (fun _ => []) (fun i => i ≤ a.length ∧ ∀ j, j < i → a.getD j 0 = b.getD j 0) (fun i => a.length - i) (0) (⟨by omega, fun j hj => absurd hj (Nat.not_lt_zero j)⟩) qa qa (fun _ => rfl) (by kernel_rfl) ?_; (conv => whnf))
  intro i hi
  (repeat' ((conv => whnf); first | refine zO ?_ | refine Ob.auto ?_ | refine zD 300 ?_ | (apply zB <;> intro hb <;> (try simp [-zd] at hb) <;> try (exfalso; omega))))
  ·refine Le.of_eq (congrArg AV.bool ?_)
   exact (beq_eq_false_iff_ne.2 (fun h => by subst h; simp at hb)).symm
  ·((conv => whnf); refine ⟨i + 1, ⟨by omega, jn hi.2 hb⟩, ⟨qa, qa⟩, ⟨qa, qa⟩, ?_⟩; (first | omega | (dsimp only; omega) | skip))
  ·refine Le.of_eq (congrArg AV.bool ?_)
   exact (beq_iff_eq.2 (qug 0 (by omega) (fun j hj => hi.2 j (by omega)))).symm
theorem jtl (a b : Stt) (ha : SSz a) : Con Tryz.prog 23 [a.av, b.av] (.bool (qlr a b)) := by
 have h1 := ha.a
 have h2 := ha.v
 have h3 := ha.c
 have h4 := ha.l
 refine zK {} 300 Tryz.func23 (fun c0 rdb => ?_)
 (repeat' ((conv => whnf); first | refine Ob.auto ?_ | refine zC 300 (qws a.at_ b.at_ h1) ?_ | refine zG 300 (fun hg => qws a.vars b.vars h2) ?_ | (apply zB <;> intro hb <;> (try simp [-zd] at hb) <;> try (exfalso; omega))))
 ·refine Le.of_eq (congrArg AV.bool ?_)
  refine Eq.symm ?_
  unfold qlr
  rw [Bool.eq_false_iff]
  intro h
  simp only [Bool.and_eq_true, beq_iff_eq] at h
  obtain ⟨⟨⟨e1, e2⟩, e3⟩, e4⟩ := h
  rw [e3] at hb
  simp [e1, e2, e4] at hb
 ·obtain ⟨⟨⟨e1, e2⟩, e3⟩, e4⟩ := hb
  ((conv => whnf); refine qk (fun _ => rfl) 300 1 (fun i : Nat => [(5, iv i)]) (fun _ => []) (fun i => i ≤ a.chans.length ∧ ∀ j, j < i → a.chans.getD j [] = b.chans.getD j []) (fun i => a.chans.length - i) (0) (⟨Nat.zero_le _, fun j hj => absurd hj (Nat.not_lt_zero j)⟩) qa qa (fun _ => rfl) (by kernel_rfl) ?_; (conv => whnf))
  intro i hi
  have hli : i < a.chans.length → _ := fun h => h4 _ (qj a.chans i [] h)
  (repeat' ((conv => whnf); first | refine zA ?_ | refine Ob.auto ?_ | (refine CallY.con (qws (a.chans.getD i []) (b.chans.getD i []) (hli (by omega))) (by rfl) leA ?_) | (refine zQ 300 ?_) | (apply zB <;> intro hb <;> (try simp [-zd] at hb) <;> try (exfalso; omega))))
  ·refine Le.of_eq (congrArg AV.bool ?_)
   refine Eq.symm ?_
   unfold qlr
   rw [Bool.eq_false_iff]
   intro h
   simp only [Bool.and_eq_true, beq_iff_eq] at h
   rw [h.1.2] at hb
   exact hb rfl
  ·((conv => whnf); refine ⟨i + 1, ⟨by omega, jn hi.2 hb⟩, ⟨qa, qa⟩, ⟨qa, qa⟩, ?_⟩; (first | omega | (dsimp only; omega) | skip))
  ·refine Le.of_eq (congrArg AV.bool ?_)
   unfold qlr
   rw [e1, e2, e4, qug [] (by omega) (fun j hj => hi.2 j (by omega))]
   simp
set_option maxHeartbeats 4000000
theorem jtm (s : Stt) : qlr s s = true := by simp [qlr]
theorem jtn (m : Md) (hM : ModOk m) (h0 : qh m (qu m) = true) (l : List Mv) (hl : l.length ≤ 100000) : Con Tryz.prog 35 [m.av, qbx l] (.bool true) := by
 have c1 := qwl m hM h0 l (by omega)
 have c2 := jsl m hM h0 l (by omega)
 have c3 := jsg m hM h0 l (by omega)
 have c4 := jsh m hM h0 l (by omega)
 have c5 := jse m hM h0 l (by omega)
 have c6 := jfd m hM h0 l (by omega)
 have c7 := jtk m hM h0 l (by omega)
 have hn := qro m l
 have hlen : (qbf m l).length = nF m l + 1 := by simp [qbf]
 have hget : ∀ i, i ≤ nF m l → (qbf m l).getD i st0z = stN m l i := fun i hi => by unfold qbf; rw [qqr _ _ _ _ (by omega)]
 have hss : ∀ i, i ≤ nF m l → SSz (stN m l i) := fun i hi => qbo hM (qgd hM h0 (fun j hj => hn.2.1 j (by omega)))
 have hE := qsa m l (nF m l)
 have c8 := jth (qdf m l) (qdf m l) (by unfold qdf; omega)
 rw [decide_eq_true rfl] at c8
 generalize qbf m l = A at c1 c2 hlen hget
 generalize qdf m l = F at c6 c7 c8
 have c9 : ∀ i, i ≤ nF m l → Con Tryz.prog 23 [(A.getD i st0z).av, (A.getD i st0z).av] (.bool true) := fun i hi => by
  have := jtl (stN m l i) (stN m l i) (hss i hi)
  rw [jtm] at this
  rw [hget i hi]; exact this
 have c10 : Con Tryz.prog 23 [(stN m l (nF m l)).av, (A.getD (nF m l) st0z).av] (.bool true) := by
  have := c9 (nF m l) (Nat.le_refl _)
  rw [hget _ (Nat.le_refl _)] at this ⊢
  exact this
 refine zK {} 300 Tryz.func35 (fun c0 rdb => ?_)
 (repeat' ((conv => whnf); first | refine zC 300 (c1) ?_ | refine zC 300 (c2) ?_ | refine zC 300 (c3) ?_ | fail))
 (repeat' ((conv => whnf); first | refine zA ?_ | refine Ob.auto ?_ | (refine CallZ.con (fun hg => c10) qen (by rfl) ?_) | (refine CallZ.con (fun hg => c4) qen (by rfl) ?_) | (refine CallZ.con (fun hg => c5) qen (by rfl) ?_) | (refine zQ 300 ?_) | (apply zB <;> intro hb <;> (try simp [-zd] at hb) <;> try (exfalso; omega))))
 ((conv => whnf); refine qk (fun _ => rfl) 300 1 (fun i : Nat => [(9, iv i)]) (fun _ => []) (fun i => i ≤ A.length) (fun i => A.length - i) (0) (Nat.zero_le _) qa qa (fun _ => rfl) (by kernel_rfl) ?_; (conv => whnf))
 intro i hi
 (repeat' ((conv => whnf); first | (apply zB <;> intro hb <;> (try simp [-zd] at hb) <;> try (exfalso; omega))))
 ·(repeat' ((conv => whnf); first | refine zA ?_ | refine Ob.auto ?_ | (refine CallY.con (c9 i (by omega)) (by rfl) leA ?_) | (refine zQ 300 ?_) | (apply zB <;> intro hb <;> (try simp [-zd] at hb) <;> try (exfalso; omega))))
  ((conv => whnf); refine ⟨i + 1, by omega, ⟨qa, qa⟩, ⟨qa, qa⟩, ?_⟩; (first | omega | (dsimp only; omega) | skip))
 ·(repeat' ((conv => whnf); first | refine zA ?_ | refine Ob.auto ?_ | (refine CallY.con (c6) (by rfl) leA ?_) | (refine CallY.con (c7) (by rfl) leA ?_) | (refine CallY.con (c8) (by rfl) leA ?_) | (refine zQ 300 ?_) | fail))
  exact Le.refl _
end Go.Proofs.YtdoaagphhjggbaaGreat
end
section
namespace Go.St
open Go Go.Sx
def VFit (vs : List Vr) : Prop := ∀ v ∈ vs, trim v.value v.width = v.value
theorem VFit.snoc {vs : List Vr} {v : Vr} (h : VFit vs) (hv : trim v.value v.width = v.value) : VFit (vs ++ [v]) := fun u hu => by
 rcases List.mem_append.1 hu with hu | hu
 ·exact h u hu
 ·rw [List.mem_singleton] at hu
  rw [hu]; exact hv
theorem qov {α β : Type} {f : β → α → β} {P : β → Prop} : ∀ (l : List α) (b : β), (∀ a ∈ l, ∀ b, P b → P (f b a)) → P b → P (l.foldl f b)
 | [], _, _, h => h
 | a :: r, b, hf, h => qov r (f b a) (fun a' ha' => hf a' (List.mem_cons_of_mem _ ha')) (hf a (List.mem_cons_self ..) b h)
section
variable {l : List Nd} (ht : Tree l) (hw : ∀ i, i < l.length → qbi l i = 0)
include hw
theorem jfh {k : Int} (h0 : 0 ≤ k) (h1 : k < l.length) (h2 : (l.getD k.toNat nd0).kind = 2) : trim ((l.getD k.toNat nd0).nums.getD 1 0) ((l.getD k.toNat nd0).nums.getD 0 0) = (l.getD k.toNat nd0).nums.getD 1 0 := by
 have := hw k.toNat (by omega)
 unfold qbi at this
 rw [if_neg (by omega), if_pos h2] at this
 split at this
 ·omega
 ·rename_i hn
  exact Classical.byContradiction fun hc => hn (.inr (.inl hc))
include ht
theorem jto (k : Int) (hk : k ∈ (l.getD 0 nd0).kids) (m : Md) (h : VFit m.vars) : VFit (qhd l m k).vars := by
 have hb := ht.kids 0 (by have := ht.len; omega) k hk
 unfold qhd
 simp only
 split
 ·exact h
 split
 ·exact h.snoc (jfh hw (by omega) hb.2 (by assumption))
 split
 ·exact h
 split <;> exact h
theorem jtp {n : Nat} (hn : n < l.length) (k : Int) (hk : k ∈ (l.getD n nd0).kids.take (varsN l (l.getD n nd0))) (x : Pr × List Vr) (h : VFit x.2) : VFit (qec l x k).2 := by
 have hb := ht.kids n hn k (List.mem_of_mem_take hk)
 obtain ⟨i, hi, rfl⟩ := List.mem_iff_getElem.1 hk
 have hi' : i < varsN l (l.getD n nd0) := by rw [List.length_take] at hi; omega
 have h2 := (qvl l (l.getD n nd0)).2 i hi'
 unfold qec
 simp only
 refine h.snoc (jfh hw (by omega) hb.2 ?_)
 unfold kidK at h2
 rw [List.getElem_take]
 rw [List.getElem_take] at hb
 rw [List.getD_eq_getElem?_getD (l := (l.getD n nd0).kids), List.getElem?_eq_getElem (by rw [List.length_take] at hi; omega)] at h2
 exact h2
theorem jtq (cs : List Ch) {k : Int} (h0 : 0 ≤ k) (h1 : k < l.length) (seen : Nat) (c : Nat) (x : List Vr × List Pr) (h : VFit x.1) : VFit (qdr l cs k seen x c).1 := by
 unfold qdr
 simp only
 exact qov (P := fun y : Pr × List Vr => VFit y.2) _ _ (fun a ha b hb => jtp ht hw (n := k.toNat) (by omega) a ha b hb) h
theorem jtr (cs : List Ch) (k : Int) (hk : k ∈ (l.getD 0 nd0).kids) (x : Nat × List Vr × List Pr) (h : VFit x.2.1) : VFit (qcs l cs x k).2.1 := by
 have hb := ht.kids 0 (by have := ht.len; omega) k hk
 unfold qcs
 simp only
 split
 ·exact qov (P := fun y : List Vr × List Pr => VFit y.1) _ _ (fun c _ b hb' => jtq ht hw cs (by omega) hb.2 _ c b hb') h
 ·exact h
theorem jts : VFit (qff l).vars := by
 have h1 : VFit (qct l).vars := qov (P := fun m : Md => VFit m.vars) _ _ (fun k hk m hm => jto ht hw k hk m hm) (fun v hv => by cases hv)
 unfold qff
 simp only
 exact qov (P := fun x : Nat × List Vr × List Pr => VFit x.2.1) _ _ (fun k hk x hx => jtr ht hw _ k hk x hx) h1
end
theorem jtt {m : Md} (hm : MOk m) (hv : VFit m.vars) : qh m (qu m) = true := by
 refine (je m _).2 ⟨⟨by simp [qu], by simp [qu], by simp [qu], by simp [qu], by simp only [qu]; omega⟩, fun i hi => ?_, fun i hi => ?_, fun i hi => ?_⟩
 ·have hi' : i < m.procs.length := by simpa [qu] using hi
  have hp := hm.place _ (qj m.procs i pr0 hi')
  unfold qkd
  rw [qu, qke _ _ _ _ hi']
  omega
 ·have hi' : i < m.vars.length := by simpa [qu] using hi
  unfold qlp
  rw [qu, quf _ _ _ _ vr0 hi']
  exact hv _ (qj m.vars i vr0 hi')
 ·have hi' : i < m.chans.length := by simpa [qu] using hi
  have hc := hm.chan _ (qj m.chans i ch0 hi')
  have hg : (qu m).chans.getD i [] = [] := by rw [qu, qke _ _ _ _ hi']
  refine ⟨?_, fun k hk => ?_⟩
  ·unfold qiu
   rw [hg]; exact hc.1
  ·rw [hg] at hk; simp at hk
end Go.St
end
section
namespace Go.Proofs.YtdoaagphhjggbaaGreat
open Go Go.Sx Go.RowKit Go.St
set_option maxRecDepth 100000
set_option maxHeartbeats 8000000
theorem nn {b : Bool} (h : (!!b) = true) : b = true := by cases b <;> simp_all
theorem jtu (l : List Nd) (hl : l.length ≤ 9223372036854775807) (hz : ∀ n ∈ l, NdSz n) (vs : List Mv) : Con Tryz.prog 8 [js l, qbx vs] (.bool true) := by
 have hp : (qfh l).2 = true → vs.length ≤ 60 → Con Tryz.prog 35 [(qfh l).1.av, qbx vs] (.bool true) := fun hmd hv => by
  have hM := (qrl hmd).1
  have hvf : VFit (qfh l).1.vars := by rw [(qrl hmd).2.1]; exact jts (qrl hmd).2.2.1 (qol (qrl hmd).2.2.2).2
  exact jtn _ hM (jtt hM.ok hvf) vs (by omega)
 refine zK {} 300 Tryz.func8 (fun c0 rdb => ?_)
 (repeat' ((conv => whnf); first | refine Ob.auto ?_ | refine zC 300 (jtb) ?_ | refine zC 300 (jsy l hl hz) ?_ | refine zG 300 (fun hg => hp (nn hg) (by omega)) ?_ | (apply zB <;> intro hb <;> (try simp [-List.getD_eq_getElem?_getD] at hb) <;> try (exfalso; omega))))
 ·exact Le.refl _
 exact Le.of_eq (congrArg AV.bool (Bool.or_true _))
end Go.Proofs.YtdoaagphhjggbaaGreat
end
