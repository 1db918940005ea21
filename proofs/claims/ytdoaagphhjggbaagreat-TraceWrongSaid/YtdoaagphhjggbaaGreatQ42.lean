/- Some texts of the library, one behind the other. -/
import Derived.Test.YtdoaagphhjggbaaGreatQ41
import Derived.Test.YtdoaagphhjggbaaGreatQ39
import Derived.Test.YtdoaagphhjggbaaGreatQ28
import Derived.Test.YtdoaagphhjggbaaGreatQ31
import Derived.Test.YtdoaagphhjggbaaGreatQ2
section
namespace Go.St
open List renaming getD_eq_getElem?_getD → zd
open Go Go.Sx
theorem qru {α : Type} (l : List α) (k i : Nat) (d : α) (h : i < k) : (l.take k).getD i d = l.getD i d := by
 rw [zd, zd, List.getElem?_take, if_pos h]
theorem qma {m : Md} {l l' : List Mv} : ∀ {i : Nat}, (∀ j, j < i → l.getD j {} = l'.getD j {}) → stN m l i = stN m l' i
 | 0, _ => rfl
 | i + 1, h => by
  unfold stN
  rw [qma (i := i) (fun j hj => h j (by omega)), h i (by omega)]
theorem qwm {m : Md} {l l' : List Mv} {j : Nat} (h : ∀ k, k ≤ j → l.getD k {} = l'.getD k {}) : okN m l j = okN m l' j := by
 unfold okN
 rw [qma (fun k hk => h k (by omega)), h j (Nat.le_refl _)]
theorem qwn {m : Md} {l l' : List Mv} : ∀ {i : Nat}, (∀ j, j < i → l.getD j {} = l'.getD j {}) → evN m l i = evN m l' i
 | 0, _ => rfl
 | i + 1, h => by
  unfold evN
  rw [qwn (i := i) (fun j hj => h j (by omega)), qma (i := i) (fun j hj => h j (by omega)), qma (i := i + 1) h, h i (by omega)]
theorem jfe (m : Md) (l : List Mv) (i : Nat) : ∀ d, ∃ r, evN m l (i + d) = evN m l i ++ r
 | 0 => ⟨[], (List.append_nil _).symm⟩
 | d + 1 => by
  obtain ⟨r, hr⟩ := jfe m l i d
  refine ⟨r ++ (evOf m (stN m l (i + d)) (stN m l (i + d + 1)) (i + d : Nat) (l.getD (i + d) {}) (evN m l (i + d))).toList, ?_⟩
  rw [← List.append_assoc, ← hr]; rfl
def qee (c : Int) (n : Nat) : Int := if c.tmod n < 0 then c.tmod n + n else c.tmod n
theorem jff {c : Int} {n : Nat} (h : 0 < n) : 0 ≤ qee c n ∧ qee c n < n := by
 have h1 := Int.tmod_lt_of_pos c (show (0 : Int) < n by omega)
 have h2 := Int.lt_tmod_of_pos c (show (0 : Int) < n by omega)
 unfold qee
 split <;> omega
def runL (m : Md) : Stt → List Int → List Mv
 | _, [] => []
 | s, c :: cs => if (jr m s).length = 0 then [] else (jr m s).getD (qee c (jr m s).length).toNat {} :: runL m (qu m s ((jr m s).getD (qee c (jr m s).length).toNat {})) cs
def goL (m : Md) (s : Stt) (l : List Mv) (i : Nat) : Stt := (l.take i).foldl (qu m) s
theorem qwo (m : Md) (l : List Mv) : ∀ i, i ≤ l.length → stN m l i = goL m (qw m) l i
 | 0, _ => rfl
 | i + 1, h => by
  unfold stN goL
  rw [qwo m l i (by omega), List.take_add_one, List.getElem?_eq_getElem (by omega), Option.toList, List.foldl_append, zd, List.getElem?_eq_getElem (by omega)]
  rfl
theorem qrv (m : Md) : ∀ (cs : List Int) (s : Stt), (runL m s cs).length ≤ cs.length ∧
  (∀ i, i < (runL m s cs).length → 0 < (jr m (goL m s (runL m s cs) i)).length ∧ (runL m s cs).getD i {} = (jr m (goL m s (runL m s cs) i)).getD (qee (cs.getD i 0) (jr m (goL m s (runL m s cs) i)).length).toNat {}) ∧
  ((runL m s cs).length < cs.length → (jr m (goL m s (runL m s cs) (runL m s cs).length)).length = 0)
 | [], s => ⟨Nat.le_refl _, fun i hi => absurd hi (Nat.not_lt_zero i), fun h => absurd h (Nat.lt_irrefl _)⟩
 | c :: cs, s => by
  by_cases h : (jr m s).length = 0
  ·have e : runL m s (c :: cs) = [] := if_pos h
   rw [e]
   exact ⟨Nat.zero_le _, fun i hi => absurd hi (Nat.not_lt_zero i), fun _ => h⟩
  ·have e : runL m s (c :: cs) = (jr m s).getD (qee c (jr m s).length).toNat {} :: runL m (qu m s ((jr m s).getD (qee c (jr m s).length).toNat {})) cs := if_neg h
   obtain ⟨h1, h2, h3⟩ := qrv m cs (qu m s ((jr m s).getD (qee c (jr m s).length).toNat {}))
   rw [e]
   refine ⟨by simp only [List.length_cons]; omega, fun i hi => ?_, fun hl => ?_⟩
   ·cases i with
    | zero => exact ⟨Nat.pos_of_ne_zero h, rfl⟩
    | succ i =>
     simp only [List.length_cons] at hi
     exact h2 i (by omega)
   ·simp only [List.length_cons] at hl
    exact h3 (by omega)
def runF (m : Md) (cs : List Int) : List Mv := runL m (qw m) cs
theorem jfg (m : Md) (cs : List Int) : (runF m cs).length ≤ cs.length := (qrv m cs (qw m)).1
theorem jfh {m : Md} {cs : List Int} {i : Nat} (h : i < (runF m cs).length) : 0 < (jr m (stN m (runF m cs) i)).length ∧ (runF m cs).getD i {} = (jr m (stN m (runF m cs) i)).getD (qee (cs.getD i 0) (jr m (stN m (runF m cs) i)).length).toNat {} := by
 rw [qwo m (runF m cs) i (by omega)]
 exact (qrv m cs (qw m)).2.1 i h
theorem jsx {m : Md} {cs : List Int} (h : (runF m cs).length < cs.length) : (jr m (stN m (runF m cs) (runF m cs).length)).length = 0 := by
 rw [qwo m (runF m cs) _ (Nat.le_refl _)]
 exact (qrv m cs (qw m)).2.2 h
theorem qos {m : Md} {cs : List Int} {i : Nat} (h : i < (runF m cs).length) : okN m (runF m cs) i = true := by
 obtain ⟨h1, h2⟩ := jfh h
 unfold okN
 rw [h2]
 exact mem_movesF.1 (ql _ _ _ (by have := jff (c := cs.getD i 0) h1; omega))
theorem jfi (m : Md) (cs : List Int) : nF m (runF m cs) = (runF m cs).length := qgy (Nat.le_refl _) (fun _ h => qos h) (.inl rfl)
end Go.St
end
section
namespace Go.Proofs.YtdoaagphhjggbaaGreat
open List renaming getD_eq_getElem?_getD → zd
open Go Go.Sx Go.RowKit Go.St
set_option maxRecDepth 100000
set_option maxHeartbeats 4000000
theorem jsy (m : Md) (hM : ModOk m) (h0 : qi m (qw m) = true) (cs : List Int) (hl : cs.length ≤ 1000000) : Con Tryz.prog 29 [m.av, ints cs] (qec (runF m cs)) := by
 have hrl := jfg m cs
 have hat := fun {i} => jfh (m := m) (cs := cs) (i := i)
 have hen := jsx (m := m) (cs := cs)
 have hok := fun {i} => qos (m := m) (cs := cs) (i := i)
 generalize runF m cs = L at hrl hat hen hok
 refine zK {lit := true, owns := [(6, (51, 4))]} 300 Tryz.func29 (fun c0 rdb => ?_)
 (repeat' ((conv => whnf); first | refine zC 300 (jrx m hM.ok) ?_ | fail))
 ((conv => whnf); refine qo (fun _ => rfl) 300 1 (fun i : Nat => [(7, iv i), (6, .own 2 0 0 i)]) (fun i => [(1, .box 34 (stN m L i).cells), (2, .row [] 51 4 0 i (encL Mv.cells {} L))]) (fun i => i ≤ L.length) (fun i => L.length - i) (0) (Nat.zero_le _) qa ⟨⟨rfl, Le.refl _, Le.refl _, Le.refl _, Le.refl _, trivial⟩, qba (fun k hk => absurd hk (Nat.not_lt_zero k)), trivial⟩ (fun _ => rfl) (by kernel_rfl) ?_; (conv => whnf))
 intro i hi
 have hf := qkn hM h0 (fun j hj => hok (i := j) (by omega)) (i := i)
 have hmv := jri m hM (stN m L i) hf
 have hVl := jry hM (stN m L i)
 by_cases hiL : i < L.length
 ·obtain ⟨hVp, hsel⟩ := hat hiL
  have hK := jff (c := cs.getD i 0) hVp
  generalize jr m (stN m L i) = V at hmv hVl hVp hsel hK
  have hlt := Int.tmod_lt_of_pos (cs.getD i 0) (show (0 : Int) < V.length by omega)
  have hgt := Int.lt_tmod_of_pos (cs.getD i 0) (show (0 : Int) < V.length by omega)
  have hr : inR .i64 ((cs.getD i 0).tmod V.length + V.length) := ⟨show (-9223372036854775808 : Int) ≤ (cs.getD i 0).tmod V.length + V.length by omega, show (cs.getD i 0).tmod V.length + V.length ≤ 9223372036854775807 by omega⟩
  have hne : ¬ V = [] := fun h => by rw [h] at hVp; exact absurd hVp (Nat.lt_irrefl 0)
  by_cases hneg : (cs.getD i 0).tmod V.length < 0
  ·have hpk : qee (cs.getD i 0) V.length = ((cs.getD i 0).tmod V.length + V.length) := by unfold qee; rw [if_pos hneg]
   rw [hpk] at hsel hK
   have hdo := jem m hM (stN m L i) (V.getD (((cs.getD i 0).tmod V.length + V.length)).toNat {}) hf (by rw [← hsel]; exact hok hiL)
   have hst : qu m (stN m L i) (V.getD (((cs.getD i 0).tmod V.length + V.length)).toNat {}) = stN m L (i + 1) := by rw [← hsel]; rfl
   rw [hst] at hdo
   (repeat' ((conv => whnf); first | refine Ob.auto ?_ | refine zC 300 (hmv) ?_ | (apply zB <;> intro hb <;> (try simp [-zd] at hb) <;> try (exfalso; omega))))
   ·exact absurd (by assumption) hne
   (repeat' ((conv => whnf); first | refine zA ?_ | refine Ob.auto ?_ | (refine CallY.con (hdo) (by rfl) leA ?_) | (refine zQ 300 ?_) | fail))
   ((conv => whnf); refine ⟨i + 1, by omega, ⟨qa, ⟨SoLe.refl _, ⟨⟨rfl, rfl, rfl⟩, rfl, rfl, jen (fun _ _ => rfl) (congrArg Mv.cells hsel.symm)⟩, trivial⟩⟩, ⟨qa, qa⟩, ?_⟩; (first | omega | (dsimp only; omega) | skip))
  ·have hpk : qee (cs.getD i 0) V.length = ((cs.getD i 0).tmod V.length) := by unfold qee; rw [if_neg (by omega)]
   rw [hpk] at hsel hK
   have hdo := jem m hM (stN m L i) (V.getD (((cs.getD i 0).tmod V.length)).toNat {}) hf (by rw [← hsel]; exact hok hiL)
   have hst : qu m (stN m L i) (V.getD (((cs.getD i 0).tmod V.length)).toNat {}) = stN m L (i + 1) := by rw [← hsel]; rfl
   rw [hst] at hdo
   (repeat' ((conv => whnf); first | refine Ob.auto ?_ | refine zC 300 (hmv) ?_ | (apply zB <;> intro hb <;> (try simp [-zd] at hb) <;> try (exfalso; omega))))
   ·exact absurd (by assumption) hne
   (repeat' ((conv => whnf); first | refine zA ?_ | refine Ob.auto ?_ | (refine CallY.con (hdo) (by rfl) leA ?_) | (refine zQ 300 ?_) | fail))
   ((conv => whnf); refine ⟨i + 1, by omega, ⟨qa, ⟨SoLe.refl _, ⟨⟨rfl, rfl, rfl⟩, rfl, rfl, jen (fun _ _ => rfl) (congrArg Mv.cells hsel.symm)⟩, trivial⟩⟩, ⟨qa, qa⟩, ?_⟩; (first | omega | (dsimp only; omega) | skip))
 ·obtain rfl : i = L.length := by omega
  by_cases hcs : L.length < cs.length
  ·rw [List.length_eq_zero_iff.1 (hen hcs)] at hmv
   (repeat' ((conv => whnf); first | refine Ob.auto ?_ | refine zC 300 (hmv) ?_ | (apply zB <;> intro hb <;> (try simp [-zd] at hb) <;> try (exfalso; omega))))
   exact Le.refl _
  ·(repeat' ((conv => whnf); first | refine Ob.auto ?_ | (apply zB <;> intro hb <;> (try simp [-zd] at hb) <;> try (exfalso; omega))))
   exact Le.refl _
end Go.Proofs.YtdoaagphhjggbaaGreat
end
section
namespace Go.St
open Go Go.Sx
def VFit (vs : List Vr) : Prop := ∀ v ∈ vs, trim v.value v.width = v.value
theorem VFit.snoc {vs : List Vr} {v : Vr} (h : VFit vs) (hv : trim v.value v.width = v.value) : VFit (vs ++ [v]) := fun u hu => by
 rcases List.mem_append.1 hu with hu | hu
 ·exact h u hu
 ·rw [List.mem_singleton] at hu
  rw [hu]; exact hv
theorem qot {α β : Type} {f : β → α → β} {P : β → Prop} : ∀ (l : List α) (b : β), (∀ a ∈ l, ∀ b, P b → P (f b a)) → P b → P (l.foldl f b)
 | [], _, _, h => h
 | a :: r, b, hf, h => qot r (f b a) (fun a' ha' => hf a' (List.mem_cons_of_mem _ ha')) (hf a (List.mem_cons_self ..) b h)
section
variable {l : List Nd} (ht : Tree l) (hw : ∀ i, i < l.length → qbg l i = 0)
include hw
theorem jfj {k : Int} (h0 : 0 ≤ k) (h1 : k < l.length) (h2 : (l.getD k.toNat nd0).kind = 2) : trim ((l.getD k.toNat nd0).nums.getD 1 0) ((l.getD k.toNat nd0).nums.getD 0 0) = (l.getD k.toNat nd0).nums.getD 1 0 := by
 have := hw k.toNat (by omega)
 unfold qbg at this
 rw [if_neg (by omega), if_pos h2] at this
 split at this
 ·omega
 ·rename_i hn
  exact Classical.byContradiction fun hc => hn (.inr (.inl hc))
include ht
theorem jsz (k : Int) (hk : k ∈ (l.getD 0 nd0).kids) (m : Md) (h : VFit m.vars) : VFit (qgv l m k).vars := by
 have hb := ht.kids 0 (by have := ht.len; omega) k hk
 unfold qgv
 simp only
 split
 ·exact h
 split
 ·exact h.snoc (jfj hw (by omega) hb.2 (by assumption))
 split
 ·exact h
 split <;> exact h
theorem jta {n : Nat} (hn : n < l.length) (k : Int) (hk : k ∈ (l.getD n nd0).kids.take (varsN l (l.getD n nd0))) (x : Pr × List Vr) (h : VFit x.2) : VFit (qeb l x k).2 := by
 have hb := ht.kids n hn k (List.mem_of_mem_take hk)
 obtain ⟨i, hi, rfl⟩ := List.mem_iff_getElem.1 hk
 have hi' : i < varsN l (l.getD n nd0) := by rw [List.length_take] at hi; omega
 have h2 := (qvd l (l.getD n nd0)).2 i hi'
 unfold qeb
 simp only
 refine h.snoc (jfj hw (by omega) hb.2 ?_)
 unfold kidK at h2
 rw [List.getElem_take]
 rw [List.getElem_take] at hb
 rw [List.getD_eq_getElem?_getD (l := (l.getD n nd0).kids), List.getElem?_eq_getElem (by rw [List.length_take] at hi; omega)] at h2
 exact h2
theorem jtb (cs : List Ch) {k : Int} (h0 : 0 ≤ k) (h1 : k < l.length) (seen : Nat) (c : Nat) (x : List Vr × List Pr) (h : VFit x.1) : VFit (qdp l cs k seen x c).1 := by
 unfold qdp
 simp only
 exact qot (P := fun y : Pr × List Vr => VFit y.2) _ _ (fun a ha b hb => jta ht hw (n := k.toNat) (by omega) a ha b hb) h
theorem jtc (cs : List Ch) (k : Int) (hk : k ∈ (l.getD 0 nd0).kids) (x : Nat × List Vr × List Pr) (h : VFit x.2.1) : VFit (qcr l cs x k).2.1 := by
 have hb := ht.kids 0 (by have := ht.len; omega) k hk
 unfold qcr
 simp only
 split
 ·exact qot (P := fun y : List Vr × List Pr => VFit y.1) _ _ (fun c _ b hb' => jtb ht hw cs (by omega) hb.2 _ c b hb') h
 ·exact h
theorem jtd : VFit (qfb l).vars := by
 have h1 : VFit (qcs l).vars := qot (P := fun m : Md => VFit m.vars) _ _ (fun k hk m hm => jsz ht hw k hk m hm) (fun v hv => by cases hv)
 unfold qfb
 simp only
 exact qot (P := fun x : Nat × List Vr × List Pr => VFit x.2.1) _ _ (fun k hk x hx => jtc ht hw _ k hk x hx) h1
end
theorem jte {m : Md} (hm : MOk m) (hv : VFit m.vars) : qi m (qw m) = true := by
 refine (ji m _).2 ⟨⟨by simp [qw], by simp [qw], by simp [qw], by simp [qw], by simp only [qw]; omega⟩, fun i hi => ?_, fun i hi => ?_, fun i hi => ?_⟩
 ·have hi' : i < m.procs.length := by simpa [qw] using hi
  have hp := hm.place _ (ql m.procs i pr0 hi')
  unfold qlj
  rw [qw, qka _ _ _ _ hi']
  omega
 ·have hi' : i < m.vars.length := by simpa [qw] using hi
  unfold qlk
  rw [qw, qua _ _ _ _ vr0 hi']
  exact hv _ (ql m.vars i vr0 hi')
 ·have hi' : i < m.chans.length := by simpa [qw] using hi
  have hc := hm.chan _ (ql m.chans i ch0 hi')
  have hg : (qw m).chans.getD i [] = [] := by rw [qw, qka _ _ _ _ hi']
  refine ⟨?_, fun k hk => ?_⟩
  ·unfold qis
   rw [hg]; exact hc.1
  ·rw [hg] at hk; simp at hk
end Go.St
end
section
namespace Go.Proofs.YtdoaagphhjggbaaGreat
open Go Go.Sx Go.RowKit Go.St
set_option maxRecDepth 100000
set_option maxHeartbeats 8000000
theorem jfk {P : Program} {f : FuncId} {args args' : List AV} {res : AV} (h : Con P f args' res) (hl : LeL args args') : Con P f args res := fun rd w vs h1 h2 => h rd w vs h1 (h2.le hl)
theorem jfl {m : Md} {cs : List Int} {k : Nat} (hk : k ≤ (runF m cs).length) : nF m ((runF m cs).take k) = k ∧ (∀ i, i ≤ k → stN m ((runF m cs).take k) i = stN m (runF m cs) i) ∧ ∃ r, qci m (runF m cs) = qci m ((runF m cs).take k) ++ r := by
 have hg : ∀ j, j < k → ((runF m cs).take k).getD j {} = (runF m cs).getD j {} := fun j hj => qru _ _ _ _ hj
 have hl : ((runF m cs).take k).length = k := by rw [List.length_take]; omega
 have hn : nF m ((runF m cs).take k) = k := qgy (by omega) (fun j hj => by rw [qwm (fun i hi => hg i (by omega))]; exact qos (by omega)) (.inl hl.symm)
 refine ⟨hn, fun i hi => qma (fun j hj => hg j (by omega)), ?_⟩
 unfold qci
 rw [hn, jfi, qwn (i := k) hg]
 obtain ⟨r, hr⟩ := jfe m (runF m cs) k ((runF m cs).length - k)
 rw [show k + ((runF m cs).length - k) = (runF m cs).length by omega] at hr
 exact ⟨r, hr⟩
end Go.Proofs.YtdoaagphhjggbaaGreat
end
section
namespace Go.Proofs.YtdoaagphhjggbaaGreat
open List renaming getD_eq_getElem?_getD → zd
open Go Go.Sx Go.RowKit Go.St
set_option maxRecDepth 100000
set_option maxHeartbeats 8000000
def qby (L : List Mv) (k : Nat) : List Mv := L.take k ++ [⟨7, 0, 0, 0⟩] ++ L.drop k
theorem jtg {m : Md} {cs : List Int} {k : Nat} (hk : k ≤ (runF m cs).length) : nF m (qby (runF m cs) k) = k ∧ (qby (runF m cs) k).length = (runF m cs).length + 1 ∧ stN m (qby (runF m cs) k) k = stN m (runF m cs) k ∧ qci m (qby (runF m cs) k) = qci m ((runF m cs).take k) := by
 have hl0 : ((runF m cs).take k).length = k := by rw [List.length_take]; omega
 have hg : ∀ j, j < k → (qby (runF m cs) k).getD j {} = ((runF m cs).take k).getD j {} := fun j hj => by
  unfold qby
  rw [List.append_assoc, zd, List.getElem?_append_left (by omega), ← zd]
 have hw : (qby (runF m cs) k).getD k {} = ⟨7, 0, 0, 0⟩ := by
  unfold qby
  rw [List.append_assoc, zd, List.getElem?_append_right (by omega), hl0, Nat.sub_self]
  rfl
 have hl : (qby (runF m cs) k).length = (runF m cs).length + 1 := by
  unfold qby
  rw [List.length_append, List.length_append, List.length_drop, hl0, List.length_singleton]
  omega
 obtain ⟨hn, hs, _⟩ := jfl hk
 have hnw : nF m (qby (runF m cs) k) = k := qgy (by omega) (fun j hj => by
  rw [qwm (fun i hi => hg i (by omega)), qwm (fun i hi => qru _ _ _ _ (by omega))]
  exact qos (by omega)) (.inr (by
   unfold okN
   rw [hw]
   rfl))
 refine ⟨hnw, hl, ?_, ?_⟩
 ·rw [qma (fun j hj => hg j hj), hs k (Nat.le_refl _)]
 ·unfold qci
  rw [hnw, hn, qwn (fun j hj => hg j hj)]
theorem jth {L : List Mv} {k : Nat} (hk : k ≤ L.length) {K : Nat} (hK : K = k) {g h : Nat → List AV} (hg : g 0 = Mv.cells ⟨7, 0, 0, 0⟩) : ∀ j, j < 0 + K + 1 + (L.length - K) → appF (0 + K + 1) (appF (0 + K) (appF 0 h K (encL Mv.cells {} L)) 1 g) (L.length - K) (fun i => encL Mv.cells {} L (K + i)) j = encL Mv.cells {} (qby L k) j := by
 subst hK
 intro j hj
 have hl0 : (L.take K).length = K := by rw [List.length_take]; omega
 unfold appF encL qby
 rw [List.append_assoc]
 by_cases h1 : j < K
 ·rw [if_pos (by omega), if_pos (by omega), if_neg (by omega), if_pos (by omega), Nat.sub_zero]
  congr 1
  rw [zd (l := _ ++ _), List.getElem?_append_left (by omega), ← zd, qru _ _ _ _ h1]
 ·by_cases h2 : j = K
  ·subst h2
   rw [if_pos (by omega), if_neg (by omega), if_pos (by omega), show j - (0 + j) = 0 by omega, hg]
   congr 1
   rw [zd, List.getElem?_append_right (by omega), hl0, Nat.sub_self]; rfl
  ·have e : (L.take K ++ ([(⟨7, 0, 0, 0⟩ : Mv)] ++ L.drop K)).getD j {} = L.getD (K + (j - (0 + K + 1))) {} := by
    rw [zd, List.getElem?_append_right (by omega), List.getElem?_append_right (by rw [hl0, List.length_singleton]; omega), List.getElem?_drop, ← zd, hl0, List.length_singleton]
    congr 1
    omega
   rw [if_neg (by omega), if_pos hj, e]
theorem jti (l : List Nd) (hl : l.length ≤ 9223372036854775807) (hz : ∀ n ∈ l, NdSz n) (cs : List Int) (a : Int) (ha : 0 ≤ a ∧ a < 256) : Con Tryz.prog 7 [jq l, ints cs, .int .u8 a] (.bool true) := by
 refine zK {lit := true} 300 Tryz.func7 (fun c0 rdb => ?_)
 (repeat' ((conv => whnf); first | refine Ob.auto ?_ | refine zC 300 (jsu) ?_ | refine zC 300 (jsr l hl hz) ?_ | (apply zB <;> intro hb <;> (try simp [-zd] at hb) <;> try (exfalso; omega))))
 ·exact Le.refl _
 ·exact Le.refl _
 have hmd : (qfd l).2 = true := by assumption
 have hM := (qrl hmd).1
 have hvf : VFit (qfd l).1.vars := by rw [(qrl hmd).2.1]; exact jtd (qrl hmd).2.2.1 (qog (qrl hmd).2.2.2).2
 have hcl : ((cs.length : Int)) ≤ 30 := by assumption
 clear hmd
 generalize (qfd l).1 = M at hM hvf ⊢
 have h0 := jte hM.ok hvf
 have hrun := jsy M hM h0 cs (by omega)
 have hrl := jfg M cs
 have hcut := fun {k} => jfl (m := M) (cs := cs) (k := k)
 have hwr := fun {k} => jtg (m := M) (cs := cs) (k := k)
 have hall := jfi M cs
 have hok := fun {i} => qos (m := M) (cs := cs) (i := i)
 generalize runF M cs = L at hrun hrl hcut hwr hall hok
 have hK1 := Int.tmod_nonneg ((L.length : Int) + 1) ha.1
 have hK2 := Int.tmod_lt_of_pos a (show (0 : Int) < (L.length : Int) + 1 by omega)
 obtain ⟨k, hk⟩ := Int.eq_ofNat_of_zero_le hK1
 rw [hk] at hK2
 have hkL : k ≤ L.length := by omega
 have hkn : (a.tmod ((L.length : Int) + 1)).toNat = k := by rw [hk]; rfl
 (repeat' ((conv => whnf); first | refine zO ?_ | refine Ob.auto ?_ | refine zC 300 (hrun) ?_ | refine zD 300 ?_ | fail))
 obtain ⟨hnk, hsk, r, hev⟩ := hcut hkL
 obtain ⟨hnw, hlw, hsw, hew⟩ := hwr hkL
 have hss : SSz (stN M L k) := qbx hM (qkn hM h0 (fun j hj => hok (i := j) (by omega)))
 have hcut4 : LeL [M.av, .slc 4 (a.tmod ((L.length : Int) + 1)).toNat (encL Mv.cells {} L)] [M.av, qec (L.take k)] := ⟨Le.refl _, Le.slc (by rw [hkn, List.length_take]; omega) (fun j hj => by
  have hj : j < (a.tmod ((L.length : Int) + 1)).toNat := hj
  rw [hkn] at hj
  unfold encL
  rw [qru _ _ _ _ hj]), trivial⟩
 have hwle := fun {g h} => jth (L := L) (k := k) hkL hkn (g := g) (h := h)
 have hwn : 0 + (a.tmod ((L.length : Int) + 1)).toNat + 1 + (L.length - (a.tmod ((L.length : Int) + 1)).toNat) = (qby L k).length := by rw [hkn, hlw]; omega
 have p1 := jes M hM h0 (qby L k) (by omega)
 rw [hnw, hsw] at p1
 have p2 := jfk (jes M hM h0 (L.take k) (by rw [List.length_take]; omega)) hcut4
 rw [hnk, hsk k (Nat.le_refl _)] at p2
 have p3 := jsv (stN M L k) (stN M L k) hss
 rw [jsw] at p3
 have p4 := jsd M hM h0 (qby L k) (by omega)
 have hr : qdo M (qby L k) = false := by
  unfold qdo
  rw [hnw, decide_eq_false (by omega)]; rfl
 rw [hr] at p4
 have p5 := qwk M hM h0 (qby L k) (by omega)
 rw [hew] at p5
 have p6 := jfk (qwk M hM h0 (L.take k) (by rw [List.length_take]; omega)) hcut4
 generalize qci M (L.take k) = G at p5 p6
 generalize stN M L k = t at p1 p2 p3
 refine jtf 1 1 rfl rfl ?_
 ((conv => whnf); refine qdt (fun _ => rfl) 300 p1 (by rfl) ⟨Le.refl _, Le.slc hwn (hwle rfl), trivial⟩ (by kernel_rfl) ?_)
 (repeat' ((conv => whnf); first | refine zO ?_ | refine Ob.auto ?_ | refine zX (p2) ?_ | refine zY (fun hg => p3) ?_ | (refine zR 300 ?_) | fail))
 ((conv => whnf); refine CallX.intro _ (fun hg => ⟨[M.av, qec (qby L k)], p4, by rfl, Le.cnd hg, Le.trans (Le.cnd hg) (Le.slc hwn (hwle rfl)), trivial⟩) ?_)
 (repeat' ((conv => whnf); first | refine Ob.auto ?_ | fail))
 ((conv => whnf); refine CallX.intro _ (fun hg => ⟨[M.av, qec (qby L k)], p5, by rfl, Le.cnd hg, Le.trans (Le.cnd hg) (Le.slc hwn (hwle rfl)), trivial⟩) ?_)
 (repeat' ((conv => whnf); first | refine zO ?_ | refine Ob.auto ?_ | refine zY (fun hg => p6) ?_ | fail))
 refine Le.of_eq (congrArg AV.bool ?_)
 rw [hk]
 simp
end Go.Proofs.YtdoaagphhjggbaaGreat
end
