/- Some texts of the library, one behind the other. -/
import Derived.Test.YtdoaagphhjggbaaGreatQ32
import Derived.Test.YtdoaagphhjggbaaGreatQ24
import Derived.Test.YtdoaagphhjggbaaGreatQ31
import Derived.Test.YtdoaagphhjggbaaGreatQ27
import Derived.Test.YtdoaagphhjggbaaGreatQ23
import Derived.Test.YtdoaagphhjggbaaGreatQ2
section
namespace Go.Proofs.YtdoaagphhjggbaaGreat
open Go Go.Sx Go.RowKit Go.St
set_option maxRecDepth 100000
set_option maxHeartbeats 4000000
theorem jtd (m : Md) (hM : ModOk m) (s : Stt) (hf : qg m s = true) (v : Mv) (h : ji m s v = true) (E : List Ev) (hE : E.length ≤ 1000000) (i : Nat) (hW : Waits m s E) :
  Trip Tryz.prog 59 [.ptr 0 0, iv i, v.av, s.av, (qv m s v).av] [boxG m E.length, rowE E, rowW m E, famW m E] (.tup [])
   [(0, boxG m (E ++ (evOf m s (qv m s v) i v E).toList).length), (1, rowE (E ++ (evOf m s (qv m s v) i v E).toList)), (2, rowW m (E ++ (evOf m s (qv m s v) i v E).toList)), (3, famW m (E ++ (evOf m s (qv m s v) i v E).toList))] 4 := by
 have hl := ((jc m s).1 hf).1.2.2.1
 have hft := jed hM hf h
 have htl := ((jc m _).1 hft).1.2.2.1
 have hW' := jfk hM hf h hW i
 cases qoy h with
 | lose c hc hq =>
  have := jsy m s (qv m s ⟨1, 0, 0, c⟩) E hE i c hl hW hc hq
  rw [show (evOf m s (qv m s ⟨1, 0, 0, c⟩) i ⟨1, 0, 0, c⟩ E).toList = [⟨2, i, -1, c, jz s c, jy E c⟩] from rfl, List.length_append]
  exact this
 | copy c hc hq =>
  have := jsz m s (qv m s ⟨2, 0, 0, c⟩) E hE i c hl hW hc hq
  rw [show (evOf m s (qv m s ⟨2, 0, 0, c⟩) i ⟨2, 0, 0, c⟩ E).toList = [⟨3, i, -1, c, jz s c, jy E c⟩] from rfl, List.length_append]
  exact this
 | edge P e hP he hcan =>
  have hed := edOk hM hP he
  have hq := qsf hcan
  have hte : edOf m ⟨0, P, e, 0⟩ = (edgesOf m P).getD e ed0 := rfl
  by_cases h2 : ((edgesOf m P).getD e ed0).act = 2
  ·have hch := hed.chn (.inl h2)
   obtain ⟨C, hC⟩ := Int.eq_ofNat_of_zero_le hch.1
   have hC' : C < m.chans.length := by omega
   have hev : evOf m s (qv m s ⟨0, P, e, 0⟩) i ⟨0, P, e, 0⟩ E = some ⟨0, i, P, C, qdg (qv m s ⟨0, P, e, 0⟩) C, -1⟩ := by
    unfold evOf
    rw [if_neg (by simp), if_neg (by simp), hte, if_pos h2, hC]
   have hss := qbp hM hft
   have hlt := hss.l _ (qi _ C [] (by omega))
   have hpos : 0 < ((qv m s ⟨0, P, e, 0⟩).chans.getD C []).length := by
    have hw := (hW' C hC').2
    have hwE := (hW C hC').1
    rw [hev] at hw
    have := (qox (E := E) (e := ⟨0, i, P, C, qdg (qv m s ⟨0, P, e, 0⟩) C, -1⟩) (c := (C : Int)) (decide_eq_true ⟨rfl, .inl rfl⟩) hwE).2.2
    rw [show (some (⟨0, i, P, C, qdg (qv m s ⟨0, P, e, 0⟩) C, -1⟩ : Ev)).toList = [⟨0, i, P, C, qdg (qv m s ⟨0, P, e, 0⟩) C, -1⟩] from rfl, this, List.length_append] at hw
    rw [← hw]
    exact Nat.succ_pos _
   have := jta m s (qv m s ⟨0, P, e, 0⟩) E hE i P e C hW hP he h2 hC hC' htl hpos hlt
   rw [hev, show (some (⟨0, i, P, C, qdg (qv m s ⟨0, P, e, 0⟩) C, -1⟩ : Ev)).toList = [⟨0, i, P, C, qdg (qv m s ⟨0, P, e, 0⟩) C, -1⟩] from rfl, List.length_append]
   exact this
  ·by_cases h3 : ((edgesOf m P).getD e ed0).act = 3
   ·have hch := hed.chn (.inr h3)
    obtain ⟨C, hC⟩ := Int.eq_ofNat_of_zero_le hch.1
    have hC' : C < m.chans.length := by omega
    have hev : evOf m s (qv m s ⟨0, P, e, 0⟩) i ⟨0, P, e, 0⟩ E = some ⟨1, i, P, C, jz s C, jy E C⟩ := by
     unfold evOf
     rw [if_neg (by simp), if_neg (by simp), hte, if_neg h2, if_pos h3, hC]
    have hq := hq h3
    rw [hC] at hq
    have := jtb m s (qv m s ⟨0, P, e, 0⟩) E hE i P e C hW hP he h3 hC hC' hl hq
    rw [hev, show (some (⟨1, i, P, C, jz s C, jy E C⟩ : Ev)).toList = [⟨1, i, P, C, jz s C, jy E C⟩] from rfl, List.length_append]
    exact this
   ·have hev : evOf m s (qv m s ⟨0, P, e, 0⟩) i ⟨0, P, e, 0⟩ E = none := by
     unfold evOf
     rw [if_neg (by simp), if_neg (by simp), hte, if_neg h2, if_neg h3]
    have := jtc m s (qv m s ⟨0, P, e, 0⟩) E i P e hP he h2 h3
    rw [hev, show (none : Option Ev).toList = [] from rfl, List.append_nil]
    exact this
theorem qxa (x : AV) : Le x .any := Le.any _
theorem jte (m : Md) (hM : ModOk m) (s : Stt) (hf : qg m s = true) (l : List Mv) (i : Nat) (hi : i < l.length) (h : ji m s (l.getD i {}) = true) (E : List Ev) (hE : E.length ≤ 1000000) (hW : Waits m s E) :
  Trip Tryz.prog 58 [iv i, s.av, (qv m s (l.getD i {})).av, .ptr 0 0, .ptr 4 0] [boxG m E.length, rowE E, rowW m E, famW m E, .box 37 [qcj l]] (.tup [])
   [(0, boxG m (E ++ (evOf m s (qv m s (l.getD i {})) i (l.getD i {}) E).toList).length), (1, rowE (E ++ (evOf m s (qv m s (l.getD i {})) i (l.getD i {}) E).toList)), (2, rowW m (E ++ (evOf m s (qv m s (l.getD i {})) i (l.getD i {}) E).toList)), (3, famW m (E ++ (evOf m s (qv m s (l.getD i {})) i (l.getD i {}) E).toList)), (4, .box 37 [qcj l])] 5 := by
 have ht := jtd m hM s hf (l.getD i {}) h E hE i hW
 generalize qv m s (l.getD i {}) = t at ht ⊢
 generalize E ++ (evOf m s t i (l.getD i {}) E).toList = E' at ht ⊢
 unfold boxG rowE rowW famW at *
 refine zL {} 300 Tryz.func58 (fun c0 rdb mpb => ?_)
 ((conv => whnf); refine zQ 300 ?_)
 (repeat' ((conv => whnf); first | refine Ob.auto ?_ | fail))
 ((conv => whnf); refine CallY.trip [0, 1, 2, 3] (ht) (by kernel_rfl) leA qa (by exact qck ⟨fun _ _ => rfl, trivial⟩) (by exact qck ⟨fun _ _ => rfl, trivial⟩) ?_)
 (repeat' ((conv => whnf); first | refine zA ?_ | fail))
 exact ⟨Le.refl _, SoLe.refl _, SoLe.refl _, SoLe.refl _, SoLe.refl _, SoLe.refl _, trivial⟩
theorem jtf (m : Md) (hM : ModOk m) (h0 : qg m (qq m) = true) (l : List Mv) (hl : l.length ≤ 1000000) : Trip Tryz.prog 56 [m.av, qcj l, .fn 58 [.ptr 0 0, .ptr 2 0]]
  [.box 94 (m.cells ++ [.nils, .own 1 0 0 m.chans.length]), .row [] 23 1 0 m.chans.length (fun _ => [.nils]), .box 37 [qcj l]] (.tup [(stN m l (nF m l)).av, iv (nF m l)]) [(0, .box 94 (m.cells ++ [.own 6 0 0 (qbv m l).length, .any])), (6, .row [] 70 6 0 (qbv m l).length (encL Ev.cells {} (qbv m l)))] 7 := by
 refine zL {} 300 Tryz.func56 (fun c0 rdb mpb => ?_)
 (repeat' ((conv => whnf); first | refine zC 300 (qsd m hM.ok) ?_ | fail))
 refine qcq 0 7 70 6 rfl rfl ?_
 refine qzv 1 3 1 rfl (fun _ _ => rfl) ?_
 ((conv => whnf); refine qj (fun _ => rfl) 300 1 (fun i : Nat => [(17, iv i)]) (fun i => [(5, .box 34 (stN m l i).cells), (0, .box 94 (m.cells ++ [.own 6 0 0 (evN m l i).length, .own 1 0 0 m.chans.length])), (6, .row [] 70 6 0 (evN m l i).length (encL Ev.cells {} (evN m l i))), (1, .row [7] 23 1 0 m.chans.length (fun k => [.own 7 k (jg (evN m l i) k) (waitOf (evN m l i) k).length])), (7, .fam 3 1 m.chans.length (fun k => jg (evN m l i) k) (fun k => (waitOf (evN m l i) k).length) (fun k => encL (fun n : Nat => [iv n]) 0 (waitOf (evN m l i) k)))]) (fun i => i ≤ l.length ∧ ∀ j, j < i → okN m l j = true) (fun i => l.length - i) (0) (⟨Nat.zero_le _, fun j hj => absurd hj (Nat.not_lt_zero j)⟩) qa ⟨⟨rfl, Le.refl _, Le.refl _, Le.refl _, Le.refl _, trivial⟩, ⟨rfl, LeL.refl _⟩, qat (fun k hk => absurd hk (Nat.not_lt_zero k)), qat (fun _ _ => rfl), qen (fun _ _ => rfl) (fun _ _ => rfl) (fun k j _ hj => absurd hj (Nat.not_lt_zero j)), trivial⟩ (fun _ => rfl) (by kernel_rfl) ?_; (conv => whnf))
 rintro i ⟨hi, hp⟩
 have hf := qer hM h0 hp
 have hW := jfm hM h0 hp
 have hE := qow m l i
 by_cases hok : okN m l i = true
 ·have hdo := qwv hM hf hok
  (repeat' ((conv => whnf); first | refine Ob.auto ?_ | refine zC 300 (hdo) ?_ | (apply zB <;> intro hb <;> (try simp [-List.getD_eq_getElem?_getD] at hb) <;> try (exfalso; omega))))
  ·have hil : i < l.length := by omega
   have ht := jte m hM (stN m l i) hf l i hil hok (evN m l i) (by omega) hW
   unfold boxG rowE rowW famW at ht
   ((conv => whnf); refine qfr (fun _ => rfl) 300 [0, 6, 1, 7, 2] (ht) (by kernel_rfl) leA qa (by exact qck ⟨fun _ _ => rfl, trivial⟩) (by exact qck ⟨fun _ _ => rfl, trivial⟩) (by kernel_rfl) ?_)
   (repeat' ((conv => whnf); first | refine Ob.auto ?_ | fail))
   ((conv => whnf); refine ⟨i + 1, ⟨by omega, jm hp hok⟩, ⟨qa, ⟨SoLe.refl _, SoLe.refl _, SoLe.refl _, SoLe.refl _, SoLe.refl _, trivial⟩⟩, ⟨qa, qa⟩, ?_⟩; (first | omega | (dsimp only; omega) | skip))
  ·obtain rfl : i = l.length := by omega
   have hn : nF m l = l.length := qfj hi hp (.inl rfl)
   rw [show qbv m l = evN m l l.length from by unfold qbv; rw [hn], hn]
   exact ⟨Le.tup ⟨Le.refl _, Le.refl _, trivial⟩, ⟨rfl, Le.refl _, Le.refl _, Le.refl _, Le.refl _, Le.refl _, Le.refl _, Le.refl _, Le.refl _, qxa _, trivial⟩, SoLe.refl _, trivial⟩
 ·have hdo := qww hM hf (Bool.not_eq_true _ ▸ hok)
  (repeat' ((conv => whnf); first | refine Ob.auto ?_ | refine zC 300 (hdo) ?_ | (apply zB <;> intro hb <;> (try simp [-List.getD_eq_getElem?_getD] at hb) <;> try (exfalso; omega))))
  ·have hn : nF m l = i := qfj hi hp (.inr (Bool.not_eq_true _ ▸ hok))
   rw [show qbv m l = evN m l i from by unfold qbv; rw [hn], hn]
   exact ⟨Le.tup ⟨Le.refl _, Le.refl _, trivial⟩, ⟨rfl, Le.refl _, Le.refl _, Le.refl _, Le.refl _, Le.refl _, Le.refl _, Le.refl _, Le.refl _, qxa _, trivial⟩, SoLe.refl _, trivial⟩
  ·obtain rfl : i = l.length := by omega
   have hn : nF m l = l.length := qfj hi hp (.inl rfl)
   rw [show qbv m l = evN m l l.length from by unfold qbv; rw [hn], hn]
   exact ⟨Le.tup ⟨Le.refl _, Le.refl _, trivial⟩, ⟨rfl, Le.refl _, Le.refl _, Le.refl _, Le.refl _, Le.refl _, Le.refl _, Le.refl _, Le.refl _, qxa _, trivial⟩, SoLe.refl _, trivial⟩
theorem qxb (m : Md) (hM : ModOk m) (h0 : qg m (qq m) = true) (l : List Mv) (hl : l.length ≤ 1000000) : Con Tryz.prog 31 [m.av, qcj l] (evsV (qbv m l)) := by
 have hz := hM.sz
 refine zK {} 300 Tryz.func31 (fun c0 rdb => ?_)
 (repeat' ((conv => whnf); first | refine zO ?_ | refine Ob.auto ?_ | (refine Ob.intro (by (first | exact ⟨by omega, by omega⟩ | (refine ⟨by omega, by omega, by omega, ?_⟩; dsimp only; refine Int.le_trans (Int.mul_le_mul_of_nonneg_right (?_ : _ ≤ (4000001 : Int)) (Int.natCast_nonneg _)) (by decide +kernel); omega))) ?_) | refine zD 300 ?_ | fail))
 ((conv => whnf); refine zT 300 [8, 6, 1] (jtf m hM h0 l hl) (?_) ?_)
 ·exact ⟨⟨rfl, LeL.refl _⟩, qat (fun k _ => by kernel_rfl), SoLe.refl _, trivial⟩
 (repeat' ((conv => whnf); first | refine Ob.auto ?_ | fail))
 exact Le.refl _
set_option maxHeartbeats 8000000
theorem jtg (l : List Nd) (hl : l.length ≤ 9223372036854775807) (hz : ∀ n ∈ l, NdSz n) : Con Tryz.prog 28 [js l] (.tup [(qfi l).1.av, .bool (qfi l).2]) := by
 have hm : Tree l → Con Tryz.prog 37 [js l] (.tup [(if (qbz l).1 = 0 then qfg l else mdZ).av, .bool (decide ((qbz l).1 = 0))]) := fun ht => by
  by_cases h : (qbz l).1 = 0
  ·rw [if_pos h, decide_eq_true h]; exact jdx l ht h
  ·rw [if_neg h, decide_eq_false h]; exact jqx l ht h
 refine zK {} 300 Tryz.func28 (fun c0 rdb => ?_)
 (repeat' ((conv => whnf); first | refine Ob.auto ?_ | refine zC 300 (jps l hl) ?_ | refine zG 300 (fun hg => jpr l hl hz) ?_ | (apply zB <;> intro hb <;> (try simp [-List.getD_eq_getElem?_getD] at hb) <;> try (exfalso; omega))))
 ·have e : qfi l = (mdZ, false) := if_neg fun h => by
   rcases hb with hb | hb
   ·omega
   ·rw [hb] at h; simp at h
  rw [e]
  exact Le.tup ⟨jdy, Le.refl _, trivial⟩
 ·((conv => whnf); refine qel (fun _ => rfl) 300 (hm (qrk hb.2)) (by rfl) leA (by kernel_rfl) ?_)
  (repeat' ((conv => whnf); first | refine Ob.auto ?_ | fail))
  have e : qfi l = (if (qbz l).1 = 0 then qfg l else mdZ, decide ((qbz l).1 = 0)) := by
   unfold qfi
   by_cases h : (qbz l).1 = 0
   ·rw [if_pos ⟨hb, h⟩, if_pos h, decide_eq_true h]
   ·rw [if_neg (fun g => h g.2), if_neg h, decide_eq_false h]
  rw [e]
  exact Le.refl _
set_option maxHeartbeats 2000000
def jfn : List Mv := [⟨0, 0, 0, 0⟩, ⟨0, 0, 1, 0⟩]
theorem jth : qg model17 (qq model17) = true := by decide +kernel
theorem jti : qbv model17 jfn = [⟨0, 0, 0, 0, 1, -1⟩, ⟨1, 1, 0, 0, 1, 0⟩] := by decide +kernel
theorem jtj : Con Tryz.prog 27 [] (.bool true) := by
 have h1 := qxb model17 jra jth jfn (by decide)
 rw [jti] at h1
 refine zK {} 300 Tryz.func27 (fun c0 rdb => ?_)
 (repeat' ((conv => whnf); first | refine zC 300 (jqy) ?_ | refine zC 300 (jqz) ?_ | fail))
 ((conv => whnf); refine qel (fun _ => rfl) 300 h1 (by rfl) ⟨Le.refl _, Le.slc rfl (fun j hj => ?_), trivial⟩ (by kernel_rfl) ?_)
 ·have hj : j < 2 := hj
  match j, hj with
  | 0, _ => rfl
  | 1, _ => rfl
 (repeat' ((conv => whnf); first | refine Ob.auto ?_ | fail))
 exact Le.of_eq (congrArg AV.bool (by kernel_rfl))
end Go.Proofs.YtdoaagphhjggbaaGreat
end
section
namespace Go.Proofs.YtdoaagphhjggbaaGreat
open List renaming getD_eq_getElem?_getD → zd
open Go Go.Sx Go.RowKit Go.St
set_option maxRecDepth 100000
set_option maxHeartbeats 4000000
theorem jtk (A B : List Ev) (c : Int) : ∃ r, jx (A ++ B) c = jx A c ++ r := by
 unfold jx
 rw [List.length_append, List.range_add, List.filter_append]
 refine ⟨_, congrArg (· ++ _) (List.filter_congr fun j hj => ?_)⟩
 rw [qgd _ _ _ (List.mem_range.1 hj)]
theorem jfo {E : List Ev} {i : Nat} (h : i < E.length) : E.take (i + 1) = E.take i ++ [E.getD i {}] := by
 rw [List.take_add_one, List.getElem?_eq_getElem h, zd, List.getElem?_eq_getElem h]; rfl
theorem jfp {E : List Ev} {i : Nat} (h : i < E.length) (c : Int) : jg (E.take (i + 1)) c = jg (E.take i) c + (if isTake c (E.getD i {}) = true then 1 else 0) := by
 rw [jfo h, qru]
theorem qxc {E : List Ev} {i : Nat} (h : i < E.length) (c : Int) : jx (E.take (i + 1)) c = jx (E.take i) c ++ (if qce c (E.getD i {}) = true then [i] else []) := by
 rw [jfo h, qrt, List.length_take, Nat.min_eq_left (Nat.le_of_lt h)]
theorem jtl {E : List Ev} {c : Int} {i : Nat} (h : i < E.length) (hp : qce c (E.getD i {}) = true) (hg : (jx (E.take i) c).length = jg E c) : jy E c = i := by
 obtain ⟨r, hr⟩ := jtk (E.take (i + 1)) (E.drop (i + 1)) c
 rw [List.take_append_drop, qxc h, if_pos hp, List.append_assoc] at hr
 unfold jy
 rw [hr, List.getElem?_append_right (by omega), hg, Nat.sub_self]
 rfl
theorem jtm {E : List Ev} {c : Int} (hg : (jx E c).length ≤ jg E c) : jy E c = -1 := by
 unfold jy
 rw [List.getElem?_eq_none hg]
theorem jtn (E : List Ev) (hE : E.length ≤ 1000000) (c : Int) : Con Tryz.prog 87 [evsV E, iv c] (iv (jy E c)) := by
 refine zK {} 300 Tryz.func87 (fun c0 rdb => ?_)
 have hgl : ∀ i, jg (E.take i) c ≤ i := fun i => by
  have h1 := List.countP_le_length (p := isTake c) (l := E.take i)
  rw [List.length_take] at h1
  unfold jg
  omega
 ((conv => whnf); refine qj (fun _ => rfl) 300 1 (fun i : Nat => [(6, iv i), (5, iv (jg (E.take i) c))]) (fun _ => []) (fun i => i ≤ E.length) (fun i => E.length - i) (0) (Nat.zero_le _) qa qa (fun _ => rfl) (by kernel_rfl) ?_; (conv => whnf))
 intro i hi
 have hgi := hgl i
 (repeat' ((conv => whnf); first | refine Ob.auto ?_ | (apply zB <;> intro hb <;> (try simp [-zd] at hb) <;> try (exfalso; omega))))
 ·have hb1 : i < E.length := by assumption
  have e := jfp hb1 c
  have ht : isTake c (E.getD i {}) = true := decide_eq_true hb
  rw [if_pos ht] at e
  ((conv => whnf); refine ⟨i + 1, hb1, ⟨⟨Le.refl _, Le.of_eq (congrArg (AV.int _) (by rw [e]; rfl)), trivial⟩, qa⟩, ⟨qa, qa⟩, ?_⟩; (first | omega | (dsimp only; omega) | skip))
 ·have hb1 : i < E.length := by assumption
  have e := jfp hb1 c
  rw [if_neg (by unfold isTake; rw [decide_eq_true_eq]; rintro ⟨h1, h2 | h2⟩; exact (hb h1).1 h2; exact (hb h1).2 h2)] at e
  ((conv => whnf); refine ⟨i + 1, hb1, ⟨⟨Le.refl _, Le.of_eq (congrArg (AV.int _) (by rw [e]; rfl)), trivial⟩, qa⟩, ⟨qa, qa⟩, ?_⟩; (first | omega | (dsimp only; omega) | skip))
 obtain rfl : i = E.length := by omega
 rw [List.take_length] at hgi ⊢
 have hpl : ∀ i, (jx (E.take i) c).length ≤ i := fun i => by
  have h1 := List.length_filter_le (fun j => qce c ((E.take i).getD j {})) (List.range (E.take i).length)
  rw [List.length_range] at h1
  have h2 : (E.take i).length ≤ i := by rw [List.length_take]; omega
  exact Nat.le_trans h1 h2
 ((conv => whnf); refine qj (fun _ => rfl) 300 2 (fun i : Nat => [(7, iv i), (5, iv ((jg E c : Int) - (jx (E.take i) c).length))]) (fun _ => []) (fun i => i ≤ E.length ∧ (jx (E.take i) c).length ≤ jg E c) (fun i => E.length - i) (0) (⟨Nat.zero_le _, Nat.zero_le _⟩) qa qa (fun _ => rfl) (by kernel_rfl) ?_; (conv => whnf))
 intro i hi
 have hpi := hpl i
 (repeat' ((conv => whnf); first | refine Ob.auto ?_ | (apply zB <;> intro hb <;> (try simp [-zd] at hb) <;> try (exfalso; omega))))
 ·have hil : i < E.length := by assumption
  have hp : qce c (E.getD i {}) = true := decide_eq_true (by assumption)
  rw [jtl hil hp (by omega)]
  exact Le.refl _
 ·have hil : i < E.length := by assumption
  have hp : qce c (E.getD i {}) = true := decide_eq_true (by assumption)
  have e := qxc hil c
  rw [if_pos hp] at e
  have el := congrArg List.length e
  rw [List.length_append, List.length_singleton] at el
  ((conv => whnf); refine ⟨i + 1, ⟨hil, by omega⟩, ⟨⟨Le.refl _, Le.of_eq (congrArg (AV.int _) (by rw [el]; omega)), trivial⟩, qa⟩, ⟨qa, qa⟩, ?_⟩; (first | omega | (dsimp only; omega) | skip))
 ·have hil : i < E.length := by assumption
  have e := qxc hil c
  rw [if_neg (by unfold qce; rw [decide_eq_true_eq]; rintro ⟨h1, h2 | h2⟩; exact (hb h1).1 h2; exact (hb h1).2 h2), List.append_nil] at e
  ((conv => whnf); refine ⟨i + 1, ⟨hil, by rw [e]; exact hi.2⟩, ⟨⟨Le.refl _, Le.of_eq (congrArg (AV.int _) (by rw [e])), trivial⟩, qa⟩, ⟨qa, qa⟩, ?_⟩; (first | omega | (dsimp only; omega) | skip))
 ·obtain rfl : i = E.length := by omega
  have := hi.2
  rw [List.take_length] at this
  rw [jtm this]
  exact Le.refl _
theorem jto {a b : Ev} (h : a.kind = b.kind ∧ a.mv = b.mv ∧ a.prc = b.prc ∧ a.ch = b.ch ∧ a.msg = b.msg ∧ a.frm = b.frm) : a = b := by
 cases a; cases b; simp_all
theorem jtp (a b : List Ev) (ha : a.length ≤ 1000000) : Con Tryz.prog 32 [evsV a, evsV b] (.bool (decide (a = b))) := by
 refine zK {} 300 Tryz.func32 (fun c0 rdb => ?_)
 (repeat' ((conv => whnf); first | refine Ob.auto ?_ | (apply zB <;> intro hb <;> (try simp [-zd] at hb) <;> try (exfalso; omega))))
 ·refine Le.of_eq (congrArg AV.bool ?_)
  exact (decide_eq_false (fun h => by subst h; simp at hb)).symm
 ·((conv => whnf); refine qj (fun _ => rfl) 300 1 (fun i : Nat => [(5, iv i)]) (fun _ => []) (fun i => i ≤ a.length ∧ ∀ j, j < i → a.getD j {} = b.getD j {}) (fun i => a.length - i) (0) (⟨by omega, fun j hj => absurd hj (Nat.not_lt_zero j)⟩) qa qa (fun _ => rfl) (by kernel_rfl) ?_; (conv => whnf))
  intro i hi
  (repeat' ((conv => whnf); first | refine zO ?_ | refine Ob.auto ?_ | refine zD 300 ?_ | (apply zB <;> intro hb <;> (try simp [-zd] at hb) <;> try (exfalso; omega))))
  ·refine Le.of_eq (congrArg AV.bool ?_)
   exact (decide_eq_false (fun h => by subst h; simp at hb)).symm
  ·((conv => whnf); refine ⟨i + 1, ⟨by omega, jm hi.2 (jto hb)⟩, ⟨qa, qa⟩, ⟨qa, qa⟩, ?_⟩; (first | omega | (dsimp only; omega) | skip))
  ·refine Le.of_eq (congrArg AV.bool ?_)
   exact (decide_eq_true (qun {} (by omega) (fun j hj => hi.2 j (by omega)))).symm
end Go.Proofs.YtdoaagphhjggbaaGreat
end
