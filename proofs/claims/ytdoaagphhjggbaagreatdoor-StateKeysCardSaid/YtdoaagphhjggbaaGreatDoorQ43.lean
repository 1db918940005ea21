/- Some texts of the library, one behind the other. -/
import Derived.Test.YtdoaagphhjggbaaGreatDoorQ42
import Derived.Test.YtdoaagphhjggbaaGreatDoorQ2
import Derived.Test.YtdoaagphhjggbaaGreatDoorQ22
import Derived.Test.YtdoaagphhjggbaaGreatDoorQ40
import Derived.Test.YtdoaagphhjggbaaGreatDoorQ39
section
namespace Go.Proofs.YtdoaagphhjggbaaGreatDoor
open List renaming getD_eq_getElem?_getD → zd
open Go Go.Sx Go.RowKit Go.St
set_option maxRecDepth 100000
set_option maxHeartbeats 4000000
structure StIn (s : Stt) : Prop where
 a : ∀ n ∈ s.at_, -9223372036854775808 ≤ n ∧ n ≤ 9223372036854775807
 v : ∀ n ∈ s.vars, -9223372036854775808 ≤ n ∧ n ≤ 9223372036854775807
 c : ∀ l ∈ s.chans, ∀ n ∈ l, -9223372036854775808 ≤ n ∧ n ≤ 9223372036854775807
 h : -9223372036854775808 ≤ s.holder ∧ s.holder ≤ 9223372036854775807
 m : s.chans.length ≤ 1000000
theorem qpp (l : List Int) (hl : l.length ≤ 1000000) (hr : ∀ n ∈ l, -9223372036854775808 ≤ n ∧ n ≤ 9223372036854775807) : (qbd l).length ≤ 23000000 := by
 have h1 := jbx [] l hl hr l.length
 have h2 := congrArg List.length (jby [] l)
 simp only [List.length_append, List.length_nil, List.length_cons, List.nil_append] at h1 h2
 omega
def keyI (s : Stt) (j : Nat) : List UInt8 := qbd s.at_ ++ qbd s.vars ++ (s.chans.take j).flatMap qbd
theorem joi (s : Stt) (hs : SSz s) (hi : StIn s) (j : Nat) (hj : j ≤ s.chans.length) : (keyI s j).length ≤ 46000000 + 23000000 * j := by
 have key : ∀ (m : List (List Int)) (j : Nat), (∀ l ∈ m, (qbd l).length ≤ 23000000) → ((m.take j).flatMap qbd).length ≤ 23000000 * j := by
  intro m
  induction m with
  | nil => intro j _; simp
  | cons x m ih =>
   intro j h
   cases j with
   | zero => simp
   | succ j =>
    rw [List.take_succ_cons, List.flatMap_cons, List.length_append]
    have h1 := ih j (fun n hn => h n (List.mem_cons_of_mem _ hn))
    have h2 := h x (List.mem_cons_self ..)
    omega
 have h1 := key s.chans j (fun l hl => qpp l (hs.l l hl) (hi.c l hl))
 have h2 := qpp s.at_ hs.a hi.a
 have h3 := qpp s.vars hs.v hi.v
 unfold keyI
 simp only [List.length_append]
 omega
theorem joj (s : Stt) (j : Nat) (hj : j < s.chans.length) : keyI s j ++ qbd (s.chans.getD j []) = keyI s (j + 1) := by
 have h : s.chans.take (j + 1) = s.chans.take j ++ [s.chans.getD j []] := by
  rw [List.take_add_one, zd, List.getElem?_eq_getElem hj]; rfl
 unfold keyI
 rw [h, List.flatMap_append]
 simp
theorem jok (l : List UInt8) : qcc l.length (digF l) = l := by
 apply List.ext_getElem
 ·simp [qcc]
 ·intro i h1 h2
  simp only [qcc, List.getElem_map, List.getElem_range, digF, qmx]
  rw [zd, List.getElem?_eq_getElem h2]
  simp
theorem jbz (s : Stt) (hs : SSz s) (hi : StIn s) : Con Tryz.prog 7 [s.av] (.str (keyT s)) := by
 refine zK {} 300 Tryz.func7 (fun c0 rdb => ?_)
 (repeat' ((conv => whnf); first | refine zA ?_ | refine zO ?_ | refine Ob.auto ?_ | refine zD 300 ?_ | (apply zB <;> intro hb <;> (try simp [-zd] at hb) <;> try (exfalso; omega)) | refine Ob.intro ?_ ?_))
 refine joh 1 0 5 1 rfl rfl ?_
 ((conv => whnf); refine zT 300 [1, 2] (qtz [] s.at_ hs.a hi.a (by simp)) (⟨⟨rfl, Le.refl _, trivial⟩, ⟨⟨rfl, rfl, rfl⟩, rfl, rfl, fun k hk => absurd hk (Nat.not_lt_zero k)⟩, trivial⟩) ?_)
 (repeat' ((conv => whnf); first | refine zA ?_ | refine zO ?_ | refine Ob.auto ?_ | refine zD 300 ?_ | (apply zB <;> intro hb <;> (try simp [-zd] at hb) <;> try (exfalso; omega)) | refine Ob.intro ?_ ?_))
 ((conv => whnf); refine zT 300 [1, 2] (qtz ([] ++ qbd s.at_) s.vars hs.v hi.v (by have := qpp s.at_ hs.a hi.a; simp; omega)) qa ?_)
 (repeat' ((conv => whnf); first | refine zA ?_ | refine zO ?_ | refine Ob.auto ?_ | refine zD 300 ?_ | (apply zB <;> intro hb <;> (try simp [-zd] at hb) <;> try (exfalso; omega)) | refine Ob.intro ?_ ?_))
 ((conv => whnf); refine qo (fun _ => rfl) 300 1 (fun j : Nat => [(19, iv j)]) (fun j => [(1, .box 60 [.own 2 0 0 (keyI s j).length]), (2, .row [] 5 1 0 (keyI s j).length (digF (keyI s j)))]) (fun j => j ≤ s.chans.length) (fun j => s.chans.length - j) (0) (Nat.zero_le _) qa ⟨⟨rfl, Le.of_eq (congrArg (AV.own 2 0 0) (by simp [keyI])), trivial⟩, ⟨⟨rfl, rfl, rfl⟩, rfl, by simp [keyI], fun k hk => LeL.of_eq (by simp [keyI])⟩, trivial⟩ (fun _ => rfl) (by kernel_rfl) ?_; (conv => whnf))
 intro j hj
 have hle := joi s hs hi j hj
 have hm := hi.m
 (repeat' ((conv => whnf); first | refine zA ?_ | refine zO ?_ | refine Ob.auto ?_ | refine zD 300 ?_ | (apply zB <;> intro hb <;> (try simp [-zd] at hb) <;> try (exfalso; omega)) | refine Ob.intro ?_ ?_))
 ·have hjc := qu s.chans j [] (by omega)
  ((conv => whnf); refine zT 300 [1, 2] (qtz (keyI s j) (s.chans.getD j []) (hs.l _ hjc) (hi.c _ hjc) (by omega)) qa ?_)
  (repeat' ((conv => whnf); first | refine zA ?_ | refine zO ?_ | refine Ob.auto ?_ | refine zD 300 ?_ | (apply zB <;> intro hb <;> (try simp [-zd] at hb) <;> try (exfalso; omega)) | refine Ob.intro ?_ ?_))
  have hnx := joj s j (by omega)
  ((conv => whnf); refine ⟨j + 1, by omega, ⟨qa, ⟨⟨rfl, Le.of_eq (congrArg (AV.own 2 0 0) (by rw [← hnx])), trivial⟩, ⟨⟨rfl, rfl, rfl⟩, rfl, by rw [← hnx], fun k hk => LeL.of_eq (by rw [← hnx])⟩, trivial⟩⟩, ⟨qa, qa⟩, ?_⟩; (first | omega | (dsimp only; omega) | skip))
 ·obtain rfl : j = s.chans.length := by omega
  have hend : keyI s s.chans.length ++ Lib.itoa s.holder = keyT s := by unfold keyI keyT; rw [List.take_length]
  have hcell : ∀ k, k < (keyI s s.chans.length).length + (Lib.itoa s.holder).length → appF (keyI s s.chans.length).length (digF (keyI s s.chans.length)) (Lib.itoa s.holder).length (digF (Lib.itoa s.holder)) k = digF (keyT s) k := fun k hk => by
   rcases qpo (keyI s s.chans.length) (Lib.itoa s.holder) k with h | h
   ·rw [h, hend]
   ·omega
  have hlen : (keyI s s.chans.length).length + (Lib.itoa s.holder).length = (keyT s).length := by rw [← hend, List.length_append]
  ((conv => whnf); refine zT 300 [2] (qtx 0 (keyI s s.chans.length).length (digF (keyI s s.chans.length)) s.holder hi.h.1 hi.h.2 (by omega)) qa ?_)
  (repeat' ((conv => whnf); first | refine zA ?_ | refine zO ?_ | refine Ob.auto ?_ | refine zD 300 ?_ | (apply zB <;> intro hb <;> (try simp [-zd] at hb) <;> try (exfalso; omega)) | refine Ob.intro ?_ ?_))
  ·exact ⟨⟨rfl, rfl⟩, fun k hk => ⟨(keyT s).getD k 0, hcell k hk⟩⟩
  ·refine Le.of_eq (congrArg AV.str ?_)
   rw [← jok (keyT s), ← hlen]
   exact List.map_congr_left fun k hk => congrArg qmx (hcell k (List.mem_range.1 hk))
end Go.Proofs.YtdoaagphhjggbaaGreatDoor
end
section
namespace Go.Proofs.YtdoaagphhjggbaaGreatDoor
open Go Go.Sx Go.RowKit Go.St
theorem qua : ∀ u : Nat, ∀ x ∈ Lib.decDigits u, 48 ≤ x.toNat ∧ x.toNat ≤ 57 := by
 intro u
 induction u using Nat.strongRecOn with
 | _ u ih =>
  intro x hx
  rw [Lib.decDigits] at hx
  split at hx
  ·simp only [List.mem_singleton] at hx
   subst hx
   simp only [UInt8.toNat_ofNat']
   omega
  ·simp only [List.mem_append, List.mem_singleton] at hx
   rcases hx with hx | rfl
   ·exact ih (u / 10) (by omega) x hx
   ·simp only [UInt8.toNat_ofNat']
    omega
theorem jca (u : Nat) : ∃ x r, Lib.decDigits u = x :: r ∧ 48 ≤ x.toNat := by
 have h := qua u
 cases e : Lib.decDigits u with
 | nil =>
  rw [Lib.decDigits] at e
  split at e <;> simp at e
 | cons x r => exact ⟨x, r, rfl, (h x (by rw [e]; exact List.mem_cons_self ..)).1⟩
def qmo (l : List UInt8) : Nat := l.foldl (fun n x => 10 * n + (x.toNat - 48)) 0
theorem qpq (u : Nat) : qmo (Lib.decDigits u) = u := by
 induction u using Nat.strongRecOn with
 | _ u ih =>
  rw [Lib.decDigits]
  split
  ·simp only [qmo, List.foldl_cons, List.foldl_nil, UInt8.toNat_ofNat']
   omega
  ·have h := ih (u / 10) (by omega)
   unfold qmo at h ⊢
   rw [List.foldl_append, h]
   simp only [List.foldl_cons, List.foldl_nil, UInt8.toNat_ofNat']
   omega
theorem jcb {a b : Int} (h : Lib.itoa a = Lib.itoa b) : a = b := by
 unfold Lib.itoa at h
 split at h <;> split at h
 ·have := congrArg qmo (List.cons.inj h).2
  rw [qpq, qpq] at this
  omega
 ·obtain ⟨x, r, e, hx⟩ := jca b.toNat
  rw [e] at h
  have := (List.cons.inj h).1
  rw [← this] at hx
  exact absurd hx (by decide)
 ·obtain ⟨x, r, e, hx⟩ := jca a.toNat
  rw [e] at h
  have := (List.cons.inj h).1
  rw [this] at hx
  exact absurd hx (by decide)
 ·have := congrArg qmo h
  rw [qpq, qpq] at this
  omega
theorem qpr (n : Int) : ∀ x ∈ Lib.itoa n, x ≠ 32 ∧ x ≠ 59 := by
 have key : ∀ x : UInt8, 48 ≤ x.toNat ∧ x.toNat ≤ 57 → x ≠ 32 ∧ x ≠ 59 := fun x h => by
  constructor
  ·rintro rfl
   exact absurd h.1 (by decide)
  ·rintro rfl
   exact absurd h.2 (by decide)
 intro x hx
 unfold Lib.itoa at hx
 split at hx
 ·simp only [List.mem_cons] at hx
  rcases hx with rfl | hx
  ·decide
  ·exact key x (qua _ x hx)
 ·exact key x (qua _ x hx)
def qub (u : List UInt8) : Prop := ∃ x r, u = x :: r ∧ (x = 32 ∨ x = 59)
theorem quc : ∀ (a b u v : List UInt8), (∀ x ∈ a, x ≠ 32 ∧ x ≠ 59) → (∀ x ∈ b, x ≠ 32 ∧ x ≠ 59) → qub u → qub v → a ++ u = b ++ v → a = b ∧ u = v
 | [], [], u, v, _, _, _, _, h => ⟨rfl, h⟩
 | [], y :: b, u, v, _, hb, hu, _, h => by
  obtain ⟨x, r, rfl, hx⟩ := hu
  have := (List.cons.inj h).1
  have hy := hb y (List.mem_cons_self ..)
  rw [← this] at hy
  rcases hx with hx | hx
  ·exact absurd hx hy.1
  ·exact absurd hx hy.2
 | x :: a, [], u, v, ha, _, _, hv, h => by
  obtain ⟨y, r, rfl, hy⟩ := hv
  have := (List.cons.inj h).1
  have hx := ha x (List.mem_cons_self ..)
  rw [this] at hx
  rcases hy with hy | hy
  ·exact absurd hy hx.1
  ·exact absurd hy hx.2
 | x :: a, y :: b, u, v, ha, hb, hu, hv, h => by
  obtain ⟨h1, h2⟩ := List.cons.inj h
  obtain ⟨h3, h4⟩ := quc a b u v (fun z hz => ha z (List.mem_cons_of_mem _ hz)) (fun z hz => hb z (List.mem_cons_of_mem _ hz)) hu hv h2
  exact ⟨by rw [h1, h3], h4⟩
def qho (l : List Int) : List UInt8 := (l.flatMap fun n => 32 :: Lib.itoa n) ++ [59]
theorem qmp (n : Int) (l : List Int) (u : List UInt8) : qho (n :: l) ++ u = 32 :: (Lib.itoa n ++ (qho l ++ u)) := by
 simp [qho]
theorem qps (l : List Int) (u : List UInt8) : qub (qho l ++ u) := by
 cases l with
 | nil => exact ⟨59, u, rfl, Or.inr rfl⟩
 | cons n l => exact ⟨32, _, qmp n l u, Or.inl rfl⟩
theorem jcc : ∀ (a b : List Int) (u v : List UInt8), qho a ++ u = qho b ++ v → a = b ∧ u = v
 | [], [], u, v, h => ⟨rfl, (List.cons.inj h).2⟩
 | [], y :: b, u, v, h => by
  rw [qmp] at h
  exact absurd (List.cons.inj h).1 (by decide)
 | x :: a, [], u, v, h => by
  rw [qmp] at h
  exact absurd (List.cons.inj h).1 (by decide)
 | x :: a, y :: b, u, v, h => by
  rw [qmp, qmp] at h
  obtain ⟨h1, h2⟩ := quc _ _ _ _ (qpr x) (qpr y) (qps a u) (qps b v) (List.cons.inj h).2
  obtain ⟨h3, h4⟩ := jcc a b u v h2
  exact ⟨by rw [jcb h1, h3], h4⟩
theorem qud (a b : List Int) (u v : List UInt8) (h : qbd a ++ u = qbd b ++ v) : a = b ∧ u = v := by
 have e : ∀ (l : List Int) (w : List UInt8), qbd l ++ w = Lib.itoa l.length ++ (qho l ++ w) := fun l w => by simp [qbd, qho]
 rw [e, e] at h
 exact jcc a b u v (quc _ _ _ _ (qpr _) (qpr _) (qps a u) (qps b v) h).2
theorem jcd : ∀ (a b : List (List Int)) (u v : List UInt8), a.length = b.length → a.flatMap qbd ++ u = b.flatMap qbd ++ v → a = b ∧ u = v
 | [], [], u, v, _, h => ⟨rfl, h⟩
 | [], y :: b, _, _, hl, _ => by simp at hl
 | x :: a, [], _, _, hl, _ => by simp at hl
 | x :: a, y :: b, u, v, hl, h => by
  rw [List.flatMap_cons, List.flatMap_cons, List.append_assoc, List.append_assoc] at h
  obtain ⟨h1, h2⟩ := qud x y _ _ h
  obtain ⟨h3, h4⟩ := jcd a b u v (by simpa using hl) h2
  exact ⟨by rw [h1, h3], h4⟩
theorem jol {s t : Stt} (hl : s.chans.length = t.chans.length) (h : keyT s = keyT t) : s = t := by
 unfold keyT at h
 simp only [List.append_assoc] at h
 obtain ⟨h1, h⟩ := qud _ _ _ _ h
 obtain ⟨h2, h⟩ := qud _ _ _ _ h
 obtain ⟨h3, h⟩ := jcd _ _ _ _ hl h
 have h4 := jcb h
 cases s; cases t
 simp only at h1 h2 h3 h4
 subst h1; subst h2; subst h3; subst h4
 rfl
theorem jom {s t : Stt} (hl : s.chans.length = t.chans.length) : (keyT s == keyT t) = qgd s t := by
 by_cases h : s = t
 ·subst h
  simp [qgd]
 ·have h1 : keyT s ≠ keyT t := fun e => h (jol hl e)
  have h2 : ¬ qgd s t = true := fun e => by
   unfold qgd at e
   simp only [Bool.and_eq_true, beq_iff_eq, decide_eq_true_eq] at e
   apply h
   cases s; cases t
   simp_all
  rw [beq_eq_false_iff_ne.2 h1]
  cases hs : qgd s t
  ·rfl
  ·exact absurd hs h2
theorem jce {m : Md} (hm : MOk m) (l : List Int) : StIn (ja m l) := by
 have hz := hm.sz
 refine ⟨fun n hn => ?_, fun n hn => ?_, fun c hc n hn => ?_, ⟨by simp [ja], by simp [ja]⟩, by simp [ja]; omega⟩
 ·simp only [ja, List.mem_map, List.mem_range] at hn
  obtain ⟨i, hi, rfl⟩ := hn
  have h1 := hm.place _ (qu m.procs i pr0 hi)
  have h2 := qjp l i (m.procs.getD i pr0).places (by omega)
  omega
 ·simp only [ja, List.mem_map, List.mem_range] at hn
  obtain ⟨i, hi, rfl⟩ := hn
  have := qlj (qax l (m.procs.length + i : Nat) 256) (m.vars.getD i vr0).width
  omega
 ·simp only [ja, List.mem_map, List.mem_range] at hc
  obtain ⟨i, hi, rfl⟩ := hc
  simp only [List.mem_map, List.mem_range] at hn
  obtain ⟨q, hq, rfl⟩ := hn
  have := qlj (qax l (kAt m l i + 1 + q : Nat) 256) (m.chans.getD i ch0).width
  unfold qfc
  omega
set_option maxRecDepth 100000
set_option maxHeartbeats 8000000
theorem jon (l : List Nd) (hl : l.length ≤ 9223372036854775807) (hz : ∀ n ∈ l, NdSz n) (a b : List Int) : Con Tryz.prog 3 [ji l, ints a, ints b] (.bool true) := by
 refine zK {} 300 Tryz.func3 (fun c0 rdb => ?_)
 (repeat' ((conv => whnf); first | refine zA ?_ | refine zO ?_ | refine Ob.auto ?_ | refine zI ?_ | refine zC 300 (qke) ?_ | refine zG 300 (fun hg => qke) ?_ | (refine CallY.con (qke) (by rfl) leA ?_) | (refine CallZ.con (fun hg => qke) qga (by rfl) ?_) | refine zC 300 (qju l hl hz) ?_ | refine zG 300 (fun hg => qju l hl hz) ?_ | (refine CallY.con (qju l hl hz) (by rfl) leA ?_) | (refine CallZ.con (fun hg => qju l hl hz) qga (by rfl) ?_) | refine zE 300 (qke) ?_ | refine zF 300 (fun hg => qke) ?_ | refine zE 300 (qju l hl hz) ?_ | refine zF 300 (fun hg => qju l hl hz) ?_ | refine zD 300 ?_ | (apply zB <;> intro hb <;> (try simp [-List.getD_eq_getElem?_getD] at hb) <;> try (exfalso; omega)) | refine Ob.intro ?_ ?_))
 ·exact Le.refl _
 ·exact Le.refl _
 have hok := (jkq hb).1
 clear hb
 generalize (qfg l).1 = M at hok ⊢
 have hm := hok.ok
 have hs := jbt hm a
 have ht := jbt hm b
 have hi := jce hm a
 have hj := jce hm b
 have c1 := jbn M hm a
 have c2 := jbn M hm b
 have hlen : (ja M a).chans.length = (ja M b).chans.length := by simp [ja]
 have hk := jom hlen
 generalize ja M a = s at hs hi c1 hk hlen ⊢
 generalize ja M b = t at ht hj c2 hk hlen ⊢
 have k1 := jbz s hs hi
 have k2 := jbz t ht hj
 have k3 := jnv s t hs
 (repeat' ((conv => whnf); first | refine zO ?_ | refine Ob.auto ?_ | refine zC 300 (c1) ?_ | refine zG 300 (fun hg => c1) ?_ | refine zX (c1) ?_ | refine zY (fun hg => c1) ?_ | refine zC 300 (c2) ?_ | refine zG 300 (fun hg => c2) ?_ | refine zX (c2) ?_ | refine zY (fun hg => c2) ?_ | refine zC 300 (k1) ?_ | refine zG 300 (fun hg => k1) ?_ | refine zX (k1) ?_ | refine zY (fun hg => k1) ?_ | refine zC 300 (k2) ?_ | refine zG 300 (fun hg => k2) ?_ | refine zX (k2) ?_ | refine zY (fun hg => k2) ?_ | refine zC 300 (k3) ?_ | refine zG 300 (fun hg => k3) ?_ | refine zX (k3) ?_ | refine zY (fun hg => k3) ?_ | refine zE 300 (c1) ?_ | refine zF 300 (fun hg => c1) ?_ | refine zE 300 (c2) ?_ | refine zF 300 (fun hg => c2) ?_ | refine zE 300 (k1) ?_ | refine zF 300 (fun hg => k1) ?_ | refine zE 300 (k2) ?_ | refine zF 300 (fun hg => k2) ?_ | refine zE 300 (k3) ?_ | refine zF 300 (fun hg => k3) ?_ | (refine zR 300 ?_) | (apply zB <;> intro hb <;> (try simp [-List.getD_eq_getElem?_getD] at hb) <;> try (exfalso; omega)) | refine Ob.intro ?_ ?_))
 refine Le.of_eq (congrArg AV.bool ?_)
 rw [hk]
 simp
end Go.Proofs.YtdoaagphhjggbaaGreatDoor
end
