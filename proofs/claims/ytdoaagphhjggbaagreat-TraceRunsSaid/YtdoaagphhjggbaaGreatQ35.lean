/- Some texts of the library, one behind the other. -/
import Derived.Test.YtdoaagphhjggbaaGreatQ32
import Derived.Test.YtdoaagphhjggbaaGreatQ22
import Derived.Test.YtdoaagphhjggbaaGreatQ24
import Derived.Test.YtdoaagphhjggbaaGreatQ34
import Derived.Test.YtdoaagphhjggbaaGreatQ2
section
namespace Go.St
open Go Go.Sx
theorem qkr {α : Type} (l : List α) (x d : α) : (l ++ [x]).getD l.length d = x := by
 rw [List.getD_eq_getElem?_getD, List.getElem?_append_right (Nat.le_refl _), Nat.sub_self]; rfl
theorem qoz {E : List Ev} {c : Int} {j : Nat} (h : j ∈ waitOf E c) : j < E.length ∧ qce c (E.getD j {}) = true := by
 have h1 : j ∈ jx E c := List.mem_of_mem_drop h
 unfold jx at h1
 rw [List.mem_filter, List.mem_range] at h1
 exact h1
theorem jtz (E : List Ev) (c : Int) : (waitOf E c).Pairwise (· < ·) := by
 unfold waitOf jx
 exact (List.pairwise_lt_range.filter _).drop
def goodAt (E : List Ev) (i : Nat) : Prop :=
 ((E.getD i {}).kind = 0 → (E.getD i {}).frm = -1) ∧
 ((E.getD i {}).kind ≠ 0 → (0 ≤ (E.getD i {}).frm ∧ (E.getD i {}).frm < i) ∧ ((E.getD (E.getD i {}).frm.toNat {}).msg = (E.getD i {}).msg ∧ (E.getD (E.getD i {}).frm.toNat {}).ch = (E.getD i {}).ch) ∧
  ((E.getD (E.getD i {}).frm.toNat {}).kind ≠ 1 ∧ (E.getD (E.getD i {}).frm.toNat {}).kind ≠ 2) ∧
  ∀ k, k < i → (E.getD k {}).ch = (E.getD i {}).ch → (E.getD i {}).kind ≠ 3 → ((E.getD k {}).kind = 1 ∨ (E.getD k {}).kind = 2) → (E.getD k {}).frm < (E.getD i {}).frm)
theorem jft {E : List Ev} {e : Ev} {i : Nat} (hi : i < E.length) (h : goodAt E i) : goodAt (E ++ [e]) i := by
 obtain ⟨h1, h2⟩ := h
 unfold goodAt
 rw [qgd _ _ _ hi]
 refine ⟨h1, fun hk => ?_⟩
 obtain ⟨h3, h4, h5, h6⟩ := h2 hk
 rw [qgd E [e] {} (j := (E.getD i {}).frm.toNat) (by omega)]
 refine ⟨h3, h4, h5, fun k hk1 => ?_⟩
 rw [qgd E [e] {} (j := k) (by omega)]
 exact h6 k hk1
structure Inv (m : Md) (s : Stt) (E : List Ev) : Prop where
 wt : Waits m s E
 msgs : ∀ c : Nat, c < m.chans.length → s.chans.getD c [] = (waitOf E c).map fun j => (E.getD j {}).msg
 good : ∀ i, i < E.length → goodAt E i
 lt : ∀ (c : Int) (k : Nat), k < E.length → isTake c (E.getD k {}) = true → ∀ w ∈ waitOf E c, (E.getD k {}).frm < (w : Int)
theorem Inv.head {m : Md} {s : Stt} {E : List Ev} (h : Inv m s E) {c : Nat} (hc : c < m.chans.length) (hq : 0 < (s.chans.getD c []).length) :
  ∃ f : Nat, jy E c = f ∧ f ∈ waitOf E c ∧ f < E.length ∧ qce c (E.getD f {}) = true ∧ jz s c = (E.getD f {}).msg := by
 have hw : 0 < (waitOf E c).length := by rw [(h.wt c hc).2]; exact hq
 have hm := qi (waitOf E c) 0 0 hw
 obtain ⟨h1, h2⟩ := qoz hm
 refine ⟨(waitOf E c).getD 0 0, qop hw, hm, h1, h2, ?_⟩
 unfold jz
 rw [Int.toNat_natCast, h.msgs c hc, qqy _ _ _ _ 0 hw]
theorem qsh {E : List Ev} {e : Ev} {l : List Nat} (h : ∀ j ∈ l, j < E.length) : (l.map fun j => ((E ++ [e]).getD j {}).msg) = l.map fun j => (E.getD j {}).msg :=
 List.map_congr_left fun j hj => by rw [qgd _ _ _ (h j hj)]
theorem jfu {m : Md} {s : Stt} {E : List Ev} (h : Inv m s E) {e : Ev} {c : Nat} (hc : c < m.chans.length) (hq : 0 < (s.chans.getD c []).length) (hch : e.ch = c) (hm : e.msg = jz s c) (hf : e.frm = jy E c) : (e.kind = 0 → e.frm = -1) → goodAt (E ++ [e]) E.length := by
 intro h0
 obtain ⟨f, f1, f2, f3, f4, f5⟩ := h.head hc hq
 have hp := of_decide_eq_true f4
 unfold goodAt
 rw [qkr]
 refine ⟨h0, fun _ => ?_⟩
 rw [hf, f1, Int.toNat_natCast, qgd _ _ _ f3]
 refine ⟨⟨Int.natCast_nonneg _, by omega⟩, ⟨by rw [hm, f5], by rw [hch]; exact hp.1⟩, by omega, fun k hk h1 _ h3 => ?_⟩
 rw [qgd _ _ _ hk] at h1 h3 ⊢
 exact h.lt c k hk (decide_eq_true ⟨by rw [h1, hch], h3⟩) f f2
theorem jfv {m : Md} {s s' : Stt} {E : List Ev} (h : Inv m s E) {e : Ev} {c : Nat} {x : Int} (hc : c < m.chans.length) (hl : s.chans.length = m.chans.length) (hp : qce c e = true) (hs : s'.chans = s.chans.set c (s.chans.getD c [] ++ [x])) (hx : e.msg = x) (hg : goodAt (E ++ [e]) E.length) : Inv m s' (E ++ [e]) := by
 have hch := (of_decide_eq_true hp).1
 refine ⟨qwx h.wt hp hl hc hs, fun k hk => ?_, fun i hi => ?_, fun c' k hk ht w hw => ?_⟩
 ·by_cases hkc : k = c
  ·subst hkc
   rw [(qox hp (h.wt k hk).1).2.2, hs, qdf, if_pos ⟨rfl, by omega⟩, List.map_append, qsh (fun j hj => (qoz hj).1), ← h.msgs k hk]
   congr 1
   show [x] = [((E ++ [e]).getD E.length {}).msg]
   rw [qkr, hx]
  ·rw [(qef (E := E) (e := e) (c := (k : Int)) (by rw [hch]; omega)).2.2, qsh (fun j hj => (qoz hj).1), ← h.msgs k hk, hs, qdf, if_neg (fun h' => hkc h'.1)]
 ·rw [List.length_append, List.length_singleton] at hi
  by_cases hil : i < E.length
  ·exact jft hil (h.good i hil)
  ·obtain rfl : i = E.length := by omega
   exact hg
 ·rw [List.length_append, List.length_singleton] at hk
  by_cases hil : k < E.length
  ·rw [qgd _ _ _ hil] at ht ⊢
   by_cases hcc : c' = c
   ·subst hcc
    rw [(qox hp (h.wt c hc).1).2.2, List.mem_append, List.mem_singleton] at hw
    rcases hw with hw | rfl
    ·exact h.lt c k hil ht w hw
    ·have hgk := (h.good k hil).2 (by have := of_decide_eq_true ht; omega)
     have := hgk.1
     omega
   ·rw [(qef (E := E) (e := e) (c := c') (by rw [hch]; exact fun h' => hcc h'.symm)).2.2] at hw
    exact h.lt c' k hil ht w hw
  ·obtain rfl : k = E.length := by omega
   rw [qkr] at ht
   have h1 := of_decide_eq_true ht
   have h2 := of_decide_eq_true hp
   omega
theorem jfw {m : Md} {s s' : Stt} {E : List Ev} (h : Inv m s E) {e : Ev} {c : Nat} (hc : c < m.chans.length) (hl : s.chans.length = m.chans.length) (ht : isTake c e = true) (hq : 0 < (s.chans.getD c []).length) (hs : s'.chans = s.chans.set c ((s.chans.getD c []).drop 1)) (hm : e.msg = jz s c) (hf : e.frm = jy E c) : Inv m s' (E ++ [e]) := by
 have hch := (of_decide_eq_true ht).1
 have hkd := (of_decide_eq_true ht).2
 have hw0 : 0 < (waitOf E c).length := by rw [(h.wt c hc).2]; exact hq
 have hg := jfu h hc hq hch hm hf (fun h0 => by omega)
 refine ⟨qwy h.wt ht hl hc hq hs, fun k hk => ?_, fun i hi => ?_, fun c' k hk ht' w hw => ?_⟩
 ·by_cases hkc : k = c
  ·subst hkc
   rw [(qse ht (h.wt k hk).1 hw0).2.2, hs, qdf, if_pos ⟨rfl, by omega⟩, qsh (fun j hj => (qoz (List.mem_of_mem_drop hj)).1), List.map_drop, ← h.msgs k hk]
  ·rw [(qef (E := E) (e := e) (c := (k : Int)) (by rw [hch]; omega)).2.2, qsh (fun j hj => (qoz hj).1), ← h.msgs k hk, hs, qdf, if_neg (fun h' => hkc h'.1)]
 ·rw [List.length_append, List.length_singleton] at hi
  by_cases hil : i < E.length
  ·exact jft hil (h.good i hil)
  ·obtain rfl : i = E.length := by omega
   exact hg
 ·rw [List.length_append, List.length_singleton] at hk
  by_cases hcc : c' = c
  ·subst hcc
   rw [(qse ht (h.wt c hc).1 hw0).2.2] at hw
   by_cases hil : k < E.length
   ·rw [qgd _ _ _ hil] at ht' ⊢
    exact h.lt c k hil ht' w (List.mem_of_mem_drop hw)
   ·obtain rfl : k = E.length := by omega
    rw [qkr, hf, qop hw0]
    have hso := jtz E c
    generalize waitOf E c = W at hw hw0 hso
    cases W with
    | nil => simp at hw0
    | cons a b =>
     have := (List.pairwise_cons.1 hso).1 w hw
     show ((a : Nat) : Int) < w
     omega
  ·rw [(qef (E := E) (e := e) (c := c') (by rw [hch]; exact fun h' => hcc h'.symm)).2.2] at hw
   by_cases hil : k < E.length
   ·rw [qgd _ _ _ hil] at ht' ⊢
    exact h.lt c' k hil ht' w hw
   ·obtain rfl : k = E.length := by omega
    rw [qkr] at ht'
    have := (of_decide_eq_true ht').1
    omega
theorem jua {m : Md} {s s' : Stt} {E : List Ev} (h : Inv m s E) (hs : s'.chans = s.chans) : Inv m s' E :=
 ⟨jfj h.wt hs, fun c hc => by rw [hs]; exact h.msgs c hc, h.good, h.lt⟩
theorem jub (m : Md) : Inv m (qq m) [] :=
 ⟨jfl m, fun c hc => by unfold qq; rw [qiu _ _ _ _ hc]; rfl, fun i hi => absurd hi (Nat.not_lt_zero i), fun c k hk => absurd hk (Nat.not_lt_zero k)⟩
theorem juc {m : Md} (hM : ModOk m) {s : Stt} (hf : qg m s = true) {v : Mv} (h : ji m s v = true) {E : List Ev} (hI : Inv m s E) (i : Nat) : Inv m (qv m s v) (E ++ (evOf m s (qv m s v) i v E).toList) := by
 have hl := ((jc m s).1 hf).1.2.2.1
 cases qoy h with
 | lose c hc hq =>
  exact jfw (c := c) (e := ⟨2, i, -1, c, jz s c, jy E c⟩) hI hc hl (decide_eq_true ⟨rfl, .inr rfl⟩) hq rfl rfl rfl
 | copy c hc hq =>
  refine jfv (c := c) (e := ⟨3, i, -1, c, jz s c, jy E c⟩) hI hc hl (decide_eq_true ⟨rfl, .inr rfl⟩) rfl ?_ (jfu hI hc hq rfl rfl rfl (fun h0 => absurd h0 (show ¬ (3 : Int) = 0 by decide)))
  unfold jz
  rfl
 | edge P e hP he hcan =>
  have hed := edOk hM hP he
  have hte : edOf m ⟨0, P, e, 0⟩ = (edgesOf m P).getD e ed0 := rfl
  rw [qwz]
  unfold evOf
  rw [if_neg (by simp), if_neg (by simp), hte]
  have hq := qsf hcan
  generalize (edgesOf m P).getD e ed0 = d at hed hq ⊢
  by_cases h2 : d.act = 2
  ·have hch := hed.chn (.inl h2)
   obtain ⟨C, hC⟩ := Int.eq_ofNat_of_zero_le hch.1
   have hCm : C < m.chans.length := by omega
   have hsx : (qbn m s P d).chans = s.chans.set C (s.chans.getD C [] ++ [trim (if d.expr < 0 then 0 else (val m P s d.expr).1) (m.chans.getD C ch0).width]) := by
    unfold qbn qn
    simp only
    rw [if_neg (by omega), if_pos h2, hC]; rfl
   rw [if_pos h2, hC]
   refine jfv (c := C) (x := trim (if d.expr < 0 then 0 else (val m P s d.expr).1) (m.chans.getD C ch0).width) hI hCm hl (decide_eq_true ⟨rfl, .inl rfl⟩) hsx ?_ ?_
   ·show qdg (qbn m s P d) C = _
    unfold qdg
    rw [Int.toNat_natCast, hsx, qdf, if_pos ⟨rfl, by omega⟩, List.length_append, List.length_singleton, Nat.add_sub_cancel, qkr]
   ·unfold goodAt
    rw [qkr]
    exact ⟨fun _ => rfl, fun h0 => absurd rfl h0⟩
  ·by_cases h3 : d.act = 3
   ·have hch := hed.chn (.inr h3)
    obtain ⟨C, hC⟩ := Int.eq_ofNat_of_zero_le hch.1
    have hq := hq h3
    rw [if_neg h2, if_pos h3, hC]
    rw [hC] at hq
    refine jfw (c := C) hI (by omega) hl (decide_eq_true ⟨rfl, .inl rfl⟩) hq ?_ rfl rfl
    unfold qbn qn
    simp only
    rw [if_neg (by omega), if_neg h2, if_pos h3, hC]; rfl
   ·rw [if_neg h2, if_neg h3]
    rw [show (Option.none : Option Ev).toList = [] from rfl, List.append_nil]
    refine jua hI ?_
    unfold qbn qn
    simp only
    split
    ·rfl
    ·rfl
theorem jfx {m : Md} (hM : ModOk m) (h0 : qg m (qq m) = true) {l : List Mv} : ∀ {i : Nat}, (∀ j, j < i → okN m l j = true) → Inv m (stN m l i) (evN m l i)
 | 0, _ => jub m
 | i + 1, h => juc hM (qer hM h0 (i := i) fun j hj => h j (by omega)) (h i (by omega)) (jfx hM h0 (i := i) fun j hj => h j (by omega)) i
theorem jud {m : Md} (hM : ModOk m) (h0 : qg m (qq m) = true) (l : List Mv) : ∀ i, i < (qbv m l).length → goodAt (qbv m l) i := (jfx hM h0 (qmb m l).2.1).good
def VFit (vs : List Vr) : Prop := ∀ v ∈ vs, trim v.value v.width = v.value
theorem VFit.snoc {vs : List Vr} {v : Vr} (h : VFit vs) (hv : trim v.value v.width = v.value) : VFit (vs ++ [v]) := fun u hu => by
 rcases List.mem_append.1 hu with hu | hu
 ·exact h u hu
 ·rw [List.mem_singleton] at hu
  rw [hu]; exact hv
theorem qpa {α β : Type} {f : β → α → β} {P : β → Prop} : ∀ (l : List α) (b : β), (∀ a ∈ l, ∀ b, P b → P (f b a)) → P b → P (l.foldl f b)
 | [], _, _, h => h
 | a :: r, b, hf, h => qpa r (f b a) (fun a' ha' => hf a' (List.mem_cons_of_mem _ ha')) (hf a (List.mem_cons_self ..) b h)
section
variable {l : List Nd} (ht : Tree l) (hw : ∀ i, i < l.length → qbi l i = 0)
include hw
theorem jfy {k : Int} (h0 : 0 ≤ k) (h1 : k < l.length) (h2 : (l.getD k.toNat nd0).kind = 2) : trim ((l.getD k.toNat nd0).nums.getD 1 0) ((l.getD k.toNat nd0).nums.getD 0 0) = (l.getD k.toNat nd0).nums.getD 1 0 := by
 have := hw k.toNat (by omega)
 unfold qbi at this
 rw [if_neg (by omega), if_pos h2] at this
 split at this
 ·omega
 ·rename_i hn
  exact Classical.byContradiction fun hc => hn (.inr (.inl hc))
include ht
theorem jue (k : Int) (hk : k ∈ (l.getD 0 nd0).kids) (m : Md) (h : VFit m.vars) : VFit (qhd l m k).vars := by
 have hb := ht.kids 0 (by have := ht.len; omega) k hk
 unfold qhd
 simp only
 split
 ·exact h
 split
 ·exact h.snoc (jfy hw (by omega) hb.2 (by assumption))
 split
 ·exact h
 split <;> exact h
theorem juf {n : Nat} (hn : n < l.length) (k : Int) (hk : k ∈ (l.getD n nd0).kids.take (varsN l (l.getD n nd0))) (x : Pr × List Vr) (h : VFit x.2) : VFit (qec l x k).2 := by
 have hb := ht.kids n hn k (List.mem_of_mem_take hk)
 obtain ⟨i, hi, rfl⟩ := List.mem_iff_getElem.1 hk
 have hi' : i < varsN l (l.getD n nd0) := by rw [List.length_take] at hi; omega
 have h2 := (qvq l (l.getD n nd0)).2 i hi'
 unfold qec
 simp only
 refine h.snoc (jfy hw (by omega) hb.2 ?_)
 unfold kidK at h2
 rw [List.getElem_take]
 rw [List.getElem_take] at hb
 rw [List.getD_eq_getElem?_getD (l := (l.getD n nd0).kids), List.getElem?_eq_getElem (by rw [List.length_take] at hi; omega)] at h2
 exact h2
theorem jug (cs : List Ch) {k : Int} (h0 : 0 ≤ k) (h1 : k < l.length) (seen : Nat) (c : Nat) (x : List Vr × List Pr) (h : VFit x.1) : VFit (qdr l cs k seen x c).1 := by
 unfold qdr
 simp only
 exact qpa (P := fun y : Pr × List Vr => VFit y.2) _ _ (fun a ha b hb => juf ht hw (n := k.toNat) (by omega) a ha b hb) h
theorem juh (cs : List Ch) (k : Int) (hk : k ∈ (l.getD 0 nd0).kids) (x : Nat × List Vr × List Pr) (h : VFit x.2.1) : VFit (qct l cs x k).2.1 := by
 have hb := ht.kids 0 (by have := ht.len; omega) k hk
 unfold qct
 simp only
 split
 ·exact qpa (P := fun y : List Vr × List Pr => VFit y.1) _ _ (fun c _ b hb' => jug ht hw cs (by omega) hb.2 _ c b hb') h
 ·exact h
theorem jui : VFit (qfg l).vars := by
 have h1 : VFit (qcu l).vars := qpa (P := fun m : Md => VFit m.vars) _ _ (fun k hk m hm => jue ht hw k hk m hm) (fun v hv => by cases hv)
 unfold qfg
 simp only
 exact qpa (P := fun x : Nat × List Vr × List Pr => VFit x.2.1) _ _ (fun k hk x hx => juh ht hw _ k hk x hx) h1
end
theorem juj {m : Md} (hm : MOk m) (hv : VFit m.vars) : qg m (qq m) = true := by
 refine (jc m _).2 ⟨⟨by simp [qq], by simp [qq], by simp [qq], by simp [qq], by simp only [qq]; omega⟩, fun i hi => ?_, fun i hi => ?_, fun i hi => ?_⟩
 ·have hi' : i < m.procs.length := by simpa [qq] using hi
  have hp := hm.place _ (qi m.procs i pr0 hi')
  unfold qkc
  rw [qq, qiu _ _ _ _ hi']
  omega
 ·have hi' : i < m.vars.length := by simpa [qq] using hi
  unfold qlo
  rw [qq, qqy _ _ _ _ vr0 hi']
  exact hv _ (qi m.vars i vr0 hi')
 ·have hi' : i < m.chans.length := by simpa [qq] using hi
  have hc := hm.chan _ (qi m.chans i ch0 hi')
  have hg : (qq m).chans.getD i [] = [] := by rw [qq, qiu _ _ _ _ hi']
  refine ⟨?_, fun k hk => ?_⟩
  ·unfold qit
   rw [hg]; exact hc.1
  ·rw [hg] at hk; simp at hk
end Go.St
end
section
namespace Go.Proofs.YtdoaagphhjggbaaGreat
open List renaming getD_eq_getElem?_getD → zd
open Go Go.Sx Go.RowKit Go.St
set_option maxRecDepth 100000
set_option maxHeartbeats 8000000
theorem juk (l : List Nd) (hl : l.length ≤ 9223372036854775807) (hz : ∀ n ∈ l, NdSz n) (cs : List Int) : Con Tryz.prog 9 [js l, ints cs] (.bool true) := by
 refine zK {} 300 Tryz.func9 (fun c0 rdb => ?_)
 (repeat' ((conv => whnf); first | refine Ob.auto ?_ | refine zC 300 (jtj) ?_ | refine zC 300 (jtg l hl hz) ?_ | (apply zB <;> intro hb <;> (try simp [-zd] at hb) <;> try (exfalso; omega))))
 ·exact Le.refl _
 ·exact Le.refl _
 have hmd : (qfi l).2 = true := by assumption
 have hM := (qrq hmd).1
 have hvf : VFit (qfi l).1.vars := by rw [(qrq hmd).2.1]; exact jui (qrq hmd).2.2.1 (qoj (qrq hmd).2.2.2).2
 have hcl : ((cs.length : Int)) ≤ 40 := by assumption
 clear hmd
 generalize (qfi l).1 = M at hM hvf ⊢
 have h0 := juj hM.ok hvf
 have hrun := jty M hM h0 cs (by omega)
 have hrl := jfr M cs
 generalize runF M cs = L at hrun hrl
 have hpl := jtv M hM h0 L (by omega)
 have hev := qxb M hM h0 L (by omega)
 have hFl : (qbv M L).length ≤ 60 := by
  have := qow M L (nF M L)
  have := (qmb M L).1
  unfold qbv
  omega
 have hgd := jud hM h0 L
 generalize qbv M L = F at hev hFl hgd
 (repeat' ((conv => whnf); first | refine zC 300 (hrun) ?_ | refine zC 300 (hpl) ?_ | refine zC 300 (hev) ?_ | (apply zB <;> intro hb <;> (try simp [-zd] at hb) <;> try (exfalso; omega))))
 ((conv => whnf); refine qj (fun _ => rfl) 300 1 (fun i : Nat => [(9, iv i)]) (fun _ => []) (fun i => i ≤ F.length) (fun i => F.length - i) (0) (Nat.zero_le _) qa qa (fun _ => rfl) (by kernel_rfl) ?_; (conv => whnf))
 intro i hi
 by_cases hiF : i < F.length
 ·obtain ⟨g1, g2⟩ := hgd i hiF
  by_cases hk0 : (F.getD i {}).kind = 0
  ·have g1 := g1 hk0
   (repeat' ((conv => whnf); first | refine Ob.auto ?_ | (apply zB <;> intro hb <;> (try simp [-zd] at hb) <;> try (exfalso; omega))))
   ((conv => whnf); refine ⟨i + 1, by omega, ⟨qa, qa⟩, ⟨qa, qa⟩, ?_⟩; (first | omega | (dsimp only; omega) | skip))
  ·obtain ⟨⟨f0, f1⟩, ⟨f2, f3⟩, ⟨f4, f5⟩, f6⟩ := g2 hk0
   (repeat' ((conv => whnf); first | refine zO ?_ | refine Ob.auto ?_ | refine zD 300 ?_ | (apply zB <;> intro hb <;> (try simp [-zd] at hb) <;> try (exfalso; omega))))
   ((conv => whnf); refine qj (fun _ => rfl) 300 2 (fun k : Nat => [(11, iv k)]) (fun _ => []) (fun k => k ≤ i) (fun k => i - k) (0) (Nat.zero_le _) qa qa (fun _ => rfl) (by kernel_rfl) ?_; (conv => whnf))
   intro k hk
   have h6 := f6 k
   (repeat' ((conv => whnf); first | refine zO ?_ | refine Ob.auto ?_ | refine zD 300 ?_ | (apply zB <;> intro hb <;> (try simp [-zd] at hb) <;> try (exfalso; omega))))
   ·((conv => whnf); refine ⟨k + 1, by omega, ⟨qa, qa⟩, ⟨qa, qa⟩, ?_⟩; (first | omega | (dsimp only; omega) | skip))
   ·((conv => whnf); refine ⟨i + 1, by omega, ⟨qa, qa⟩, ⟨qa, qa⟩, ?_⟩; (first | omega | (dsimp only; omega) | skip))
 ·(repeat' ((conv => whnf); first | refine Ob.auto ?_ | (apply zB <;> intro hb <;> (try simp [-zd] at hb) <;> try (exfalso; omega))))
  exact Le.refl _
end Go.Proofs.YtdoaagphhjggbaaGreat
end
