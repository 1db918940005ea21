/- Some texts of the library, one behind the other. -/
import Derived.Test.YtdoaagphhjggbaaGreatQ24
import Derived.Test.YtdoaagphhjggbaaGreatQ22
import Derived.Test.YtdoaagphhjggbaaGreatQ16
import Derived.Test.YtdoaagphhjggbaaGreatQ3
import Derived.Test.YtdoaagphhjggbaaGreatQ2
section
namespace Go.St
open List renaming getD_eq_getElem?_getD → zd
open Go Go.Sx
theorem qdf {α : Type} (l : List α) (i j : Nat) (x d : α) : (l.set i x).getD j d = if j = i ∧ i < l.length then x else l.getD j d := by
 rw [zd, zd, List.getElem?_set]
 by_cases h : i = j
 ·subst h
  by_cases h2 : i < l.length
  ·rw [if_pos rfl, if_pos h2, if_pos ⟨rfl, h2⟩]; rfl
  ·rw [if_pos rfl, if_neg h2, if_neg (fun h => h2 h.2), List.getElem?_eq_none (by omega)]
 ·rw [if_neg h, if_neg (fun h2 => h h2.1.symm)]
section
variable {m : Md} {s : Stt}
theorem jrc (hf : qg m s = true) (p : Nat) (x : Int) (hx : 0 ≤ x ∧ x < (m.procs.getD p pr0).places) : qg m { s with at_ := s.at_.set p x } = true := by
 obtain ⟨h0, hA, hV, hC⟩ := (jc m s).1 hf
 refine (jc m _).2 ⟨⟨by simpa using h0.1, h0.2.1, h0.2.2.1, h0.2.2.2⟩, fun i hi => ?_, hV, hC⟩
 have hi' : i < s.at_.length := by simpa using hi
 have := hA i hi'
 unfold qkc at *
 simp only
 rw [qdf]
 split
 ·rename_i h; rw [h.1]; exact hx
 ·exact this
theorem jec (hf : qg m s = true) (k : Nat) (x : Int) (hx : trim x (m.vars.getD k vr0).width = x) : qg m { s with vars := s.vars.set k x } = true := by
 obtain ⟨h0, hA, hV, hC⟩ := (jc m s).1 hf
 refine (jc m _).2 ⟨⟨h0.1, by simpa using h0.2.1, h0.2.2.1, h0.2.2.2⟩, hA, fun i hi => ?_, hC⟩
 have hi' : i < s.vars.length := by simpa using hi
 have := hV i hi'
 unfold qlo at *
 simp only
 rw [qdf]
 split
 ·rename_i h; rw [h.1]; exact hx
 ·exact this
theorem qrr (hf : qg m s = true) (k : Nat) (c : List Int) (hc : (c.length : Int) ≤ (m.chans.getD k ch0).room) (hx : ∀ x ∈ c, trim x (m.chans.getD k ch0).width = x) : qg m { s with chans := s.chans.set k c } = true := by
 obtain ⟨h0, hA, hV, hC⟩ := (jc m s).1 hf
 refine (jc m _).2 ⟨⟨h0.1, h0.2.1, by simpa using h0.2.2.1, h0.2.2.2⟩, hA, hV, fun i hi => ?_⟩
 have hi' : i < s.chans.length := by simpa using hi
 have := hC i hi'
 unfold qit qlp at *
 simp only
 rw [qdf]
 split
 ·rename_i h; rw [h.1]; exact ⟨hc, fun q hq => hx _ (qi _ _ _ hq)⟩
 ·exact this
theorem qma (hf : qg m s = true) (h : Int) (hh : -1 ≤ h ∧ h < m.procs.length) : qg m { s with holder := h } = true := by
 obtain ⟨h0, hA, hV, hC⟩ := (jc m s).1 hf
 exact (jc m _).2 ⟨⟨h0.1, h0.2.1, h0.2.2.1, hh⟩, hA, hV, hC⟩
theorem qom (hf : qg m s = true) (k : Nat) : ∀ x ∈ s.chans.getD k [], trim x (m.chans.getD k ch0).width = x := by
 obtain ⟨h0, hA, hV, hC⟩ := (jc m s).1 hf
 intro x hx
 by_cases hk : k < s.chans.length
 ·obtain ⟨q, hq, rfl⟩ := List.mem_iff_getElem.1 hx
  have := (hC k hk).2 q hq
  unfold qlp at this
  rw [zd (l := s.chans.getD k []), List.getElem?_eq_getElem hq] at this
  exact this
 ·rw [zd, List.getElem?_eq_none (by omega)] at hx
  simp at hx
theorem qmk (hf : qg m s = true) {k : Nat} (hk : k < m.chans.length) : ((s.chans.getD k []).length : Int) ≤ (m.chans.getD k ch0).room := by
 obtain ⟨h0, _, _, hC⟩ := (jc m s).1 hf
 exact (hC k (by rw [h0.2.2.1]; exact hk)).1
theorem qbp (hM : ModOk m) (hf : qg m s = true) : SSz s := by
 have h0 := ((jc m s).1 hf).1
 have hz := hM.sz
 refine ⟨by rw [h0.1]; omega, by rw [h0.2.1]; omega, by rw [h0.2.2.1]; omega, fun c hc => ?_⟩
 obtain ⟨i, hi, rfl⟩ := List.mem_iff_getElem.1 hc
 have hi' : i < m.chans.length := by rw [← h0.2.2.1]; exact hi
 have h1 := qmk hf hi'
 have h2 := hM.ok.chan _ (qi m.chans i ch0 hi')
 rw [zd, List.getElem?_eq_getElem hi] at h1
 simp only [Option.getD_some] at h1
 omega
def ji (m : Md) (s : Stt) (v : Mv) : Bool :=
 if v.kind = 0 then decide (v.chn = 0 ∧ (s.holder = -1 ∨ s.holder = v.proc)) && (decide (0 ≤ v.proc ∧ v.proc < m.procs.length ∧ 0 ≤ v.edge ∧ v.edge < (edgesOf m v.proc.toNat).length) && canB m s v.proc.toNat ((edgesOf m v.proc.toNat).getD v.edge.toNat ed0))
 else if v.kind = 1 ∨ v.kind = 2 then decide (s.holder = -1 ∧ v.proc = 0 ∧ v.edge = 0 ∧ 0 ≤ v.chn ∧ v.chn < m.chans.length) && (if v.kind = 1 then qje m s v.chn.toNat else qid m s v.chn.toNat)
 else false
theorem mem_edgeMoves {p : Nat} {v : Mv} : v ∈ qic m s p ↔ v.kind = 0 ∧ v.proc = p ∧ v.chn = 0 ∧ (0 ≤ v.edge ∧ v.edge < (edgesOf m p).length) ∧ canB m s p ((edgesOf m p).getD v.edge.toNat ed0) = true := by
 unfold qic
 simp only [List.mem_map, List.mem_filter, List.mem_range]
 constructor
 ·rintro ⟨i, ⟨h1, h2⟩, rfl⟩
  exact ⟨rfl, rfl, rfl, ⟨Int.natCast_nonneg _, by simp only; omega⟩, h2⟩
 ·rintro ⟨h1, h2, h3, ⟨h4, h5⟩, h6⟩
  refine ⟨v.edge.toNat, ⟨by omega, h6⟩, ?_⟩
  cases v with
  | mk k p' e c => simp only at *; subst h1 h2 h3; rw [Int.toNat_of_nonneg h4]
theorem mem_chanMoves {c : Nat} {v : Mv} : v ∈ qeq m s c ↔ (v.proc = 0 ∧ v.edge = 0 ∧ v.chn = c) ∧ (v.kind = 1 ∧ qje m s c = true ∨ v.kind = 2 ∧ qid m s c = true) := by
 unfold qeq
 rw [List.mem_append]
 constructor
 ·rintro (h | h)
  ·split at h
   ·rw [List.mem_singleton] at h; subst h; exact ⟨⟨rfl, rfl, rfl⟩, .inl ⟨rfl, by assumption⟩⟩
   ·simp at h
  ·split at h
   ·rw [List.mem_singleton] at h; subst h; exact ⟨⟨rfl, rfl, rfl⟩, .inr ⟨rfl, by assumption⟩⟩
   ·simp at h
 ·rintro ⟨⟨h1, h2, h3⟩, h⟩
  cases v with
  | mk k p' e c' =>
   simp only at *
   subst h1 h2 h3
   rcases h with ⟨rfl, h⟩ | ⟨rfl, h⟩
   ·left; rw [if_pos h]; simp
   ·right; rw [if_pos h]; simp
theorem mem_movesF {v : Mv} : v ∈ jo m s ↔ ji m s v = true := by
 unfold jo
 rw [List.mem_append, List.mem_flatMap]
 unfold ji
 constructor
 ·rintro (⟨p, hp, h⟩ | h)
  ·rw [List.mem_range] at hp
   split at h
   ·simp at h
   ·rename_i hh
    obtain ⟨h1, h2, h3, h4, h5⟩ := mem_edgeMoves.1 h
    rw [if_pos h1, h2, Int.toNat_natCast, h5, decide_eq_true ⟨h3, by omega⟩, decide_eq_true ⟨Int.natCast_nonneg _, by omega, h4⟩]; rfl
  ·split at h
   ·rename_i hh
    rw [List.mem_flatMap] at h
    obtain ⟨c, hc, h⟩ := h
    rw [List.mem_range] at hc
    obtain ⟨⟨h1, h2, h3⟩, h4⟩ := mem_chanMoves.1 h
    rw [if_neg (by omega), if_pos (by omega), h3, Int.toNat_natCast, decide_eq_true ⟨hh, h1, h2, Int.natCast_nonneg _, by omega⟩, Bool.true_and]
    rcases h4 with ⟨h4, h5⟩ | ⟨h4, h5⟩
    ·rw [if_pos h4]; exact h5
    ·rw [if_neg (by omega)]; exact h5
   ·simp at h
 ·intro h
  split at h
  ·rename_i h1
   rw [Bool.and_eq_true, Bool.and_eq_true] at h
   obtain ⟨h2, h3, h4⟩ := h
   have h2 := of_decide_eq_true h2
   have h3 := of_decide_eq_true h3
   refine .inl ⟨v.proc.toNat, List.mem_range.2 (by omega), ?_⟩
   rw [if_neg (by omega)]
   exact mem_edgeMoves.2 ⟨h1, by omega, h2.1, h3.2.2, h4⟩
  ·split at h
   ·rename_i h0 h1
    rw [Bool.and_eq_true] at h
    obtain ⟨h2, h3⟩ := h
    have h2 := of_decide_eq_true h2
    right
    rw [if_pos h2.1, List.mem_flatMap]
    refine ⟨v.chn.toNat, List.mem_range.2 (by omega), mem_chanMoves.2 ⟨⟨h2.2.1, h2.2.2.1, by omega⟩, ?_⟩⟩
    split at h3
    ·exact .inl ⟨by assumption, h3⟩
    ·exact .inr ⟨by omega, h3⟩
   ·cases h
theorem edOk (hM : ModOk m) {p : Nat} (hp : p < m.procs.length) {i : Nat} (hi : i < (edgesOf m p).length) : EdOk m.tree.length m.vars.length m.chans.length (m.procs.getD p pr0).places ((edgesOf m p).getD i ed0) :=
 (hM.pr _ (qi _ _ _ hp)).ed _ (qi _ _ _ hi)
theorem qon (hM : ModOk m) (hf : qg m s = true) {p : Nat} {e : Ed} (hto : 0 ≤ e.to ∧ e.to < (m.procs.getD p pr0).places) (hcn : e.act = 2 → qlen s e.chn < room m e.chn) : qg m (qn m s p e) = true := by
 have h0 := ((jc m s).1 hf).1
 have ha := qma (jrc hf p e.to hto) (-1) ⟨Int.le_refl _, by omega⟩
 unfold qn
 simp only
 split
 ·exact jec ha _ _ (qwj _ _)
 split
 ·rename_i h2
  have := hcn h2
  unfold qlen room at this
  refine qrr ha _ _ (by simp only [List.length_append, List.length_singleton]; omega) (fun x hx => ?_)
  rw [List.mem_append, List.mem_singleton] at hx
  rcases hx with hx | rfl
  ·exact qom hf _ x hx
  ·exact qwj _ _
 split
 ·have hb := jec ha e.var.toNat (trim ((s.chans.getD e.chn.toNat []).getD 0 0) (m.vars.getD e.var.toNat vr0).width) (qwj _ _)
  refine qrr hb _ _ ?_ (fun x hx => qom hf _ x (List.mem_of_mem_drop hx))
  rw [List.length_drop]
  by_cases hk : e.chn.toNat < m.chans.length
  ·have := qmk hf hk; omega
  ·rw [zd (l := s.chans), List.getElem?_eq_none (by omega)]
   rw [zd, List.getElem?_eq_none (by omega)]
   simp [ch0]
 ·exact ha
theorem qoo {p : Nat} {e : Ed} (h : canB m s p e = true) (h2 : e.act = 2) : qlen s e.chn < room m e.chn := by
 unfold canB at h
 rw [if_pos h2, Bool.and_eq_true] at h
 exact of_decide_eq_true h.2
theorem jed (hM : ModOk m) (hf : qg m s = true) {v : Mv} (hv : ji m s v = true) : qg m (qv m s v) = true := by
 have h0 := ((jc m s).1 hf).1
 unfold ji at hv
 unfold qv
 split at hv
 ·rename_i hk
  rw [Bool.and_eq_true, Bool.and_eq_true] at hv
  obtain ⟨h2, h3, h4⟩ := hv
  have h3 := of_decide_eq_true h3
  rw [if_neg (by omega), if_neg (by omega)]
  have hp : v.proc.toNat < m.procs.length := by omega
  have he := edOk hM hp (i := v.edge.toNat) (by omega)
  unfold qbn
  refine qma (qon hM hf he.to (qoo h4)) _ ?_
  split <;> omega
 ·split at hv
  ·rw [Bool.and_eq_true] at hv
   obtain ⟨h2, h3⟩ := hv
   have h2 := of_decide_eq_true h2
   have hc : v.chn.toNat < m.chans.length := by omega
   have hl := qmk hf hc
   split
   ·refine qma (s := { s with chans := s.chans.set v.chn.toNat ((s.chans.getD v.chn.toNat []).drop 1) }) (qrr hf _ _ (by rw [List.length_drop]; omega) (fun x hx => qom hf _ x (List.mem_of_mem_drop hx))) (-1) ⟨Int.le_refl _, by omega⟩
   ·rename_i h1
    rw [if_neg h1] at h3
    rw [if_pos (by omega)]
    unfold qid qlen room at h3
    simp only [Bool.and_eq_true, decide_eq_true_eq, Int.toNat_natCast] at h3
    refine qma (s := { s with chans := s.chans.set v.chn.toNat (s.chans.getD v.chn.toNat [] ++ [(s.chans.getD v.chn.toNat []).getD 0 0]) }) (qrr hf _ _ (by simp only [List.length_append, List.length_singleton]; omega) (fun x hx => ?_)) (-1) ⟨Int.le_refl _, by omega⟩
    rw [List.mem_append, List.mem_singleton] at hx
    rcases hx with hx | rfl
    ·exact qom hf _ x hx
    ·exact qom hf _ _ (qi _ _ _ (by omega))
  ·cases hv
def st0z : Stt := ⟨[], [], [], 0⟩
def doB (m : Md) (s : Stt) (v : Mv) : Bool := qg m s && ji m s v
def qrs (m : Md) (s : Stt) (v : Mv) : Stt := if doB m s v = true then qv m s v else st0z
end
structure Ev where
 kind : Int := 0
 mv : Int := 0
 prc : Int := 0
 ch : Int := 0
 msg : Int := 0
 frm : Int := 0
deriving DecidableEq
def Ev.cells (e : Ev) : List AV := [iv e.kind, iv e.mv, iv e.prc, iv e.ch, iv e.msg, iv e.frm]
def Ev.av (e : Ev) : AV := .agg e.cells
def evsV (l : List Ev) : AV := slcL Ev.cells {} 6 l
def qwl (l : List Stt) : AV := slcL Stt.cells st0z 4 l
def stN (m : Md) (l : List Mv) : Nat → Stt
 | 0 => qq m
 | i + 1 => qv m (stN m l i) (l.getD i {})
def okN (m : Md) (l : List Mv) (j : Nat) : Bool := ji m (stN m l j) (l.getD j {})
def nF (m : Md) (l : List Mv) : Nat := ((List.range l.length).takeWhile (okN m l)).length
theorem jee (p : Nat → Bool) : ∀ (n i a : Nat), i ≤ n → (∀ j, j < i → p (a + j) = true) → (i = n ∨ p (a + i) = false) → ((List.range' a n).takeWhile p).length = i
 | 0, i, a, hi, _, _ => by
  obtain rfl : i = 0 := by omega
  rfl
 | n + 1, 0, a, hi, _, h2 => by
  rw [List.range'_succ, List.takeWhile_cons]
  rcases h2 with h2 | h2
  ·omega
  ·rw [Nat.add_zero] at h2; rw [h2]; rfl
 | n + 1, i + 1, a, hi, h1, h2 => by
  rw [List.range'_succ, List.takeWhile_cons]
  have h0 := h1 0 (by omega)
  rw [Nat.add_zero] at h0
  rw [h0, if_pos rfl, List.length_cons]
  congr 1
  refine jee p n i (a + 1) (by omega) (fun j hj => ?_) ?_
  ·have := h1 (j + 1) (by omega)
   rw [show a + 1 + j = a + (j + 1) by omega]; exact this
  ·rcases h2 with h2 | h2
   ·exact .inl (by omega)
   ·right; rw [show a + 1 + i = a + (i + 1) by omega]; exact h2
theorem qfj {m : Md} {l : List Mv} {i : Nat} (hi : i ≤ l.length) (h1 : ∀ j, j < i → okN m l j = true) (h2 : i = l.length ∨ okN m l i = false) : nF m l = i := by
 unfold nF
 rw [List.range_eq_range']
 exact jee (okN m l) l.length i 0 hi (fun j hj => by rw [Nat.zero_add]; exact h1 j hj) (by rw [Nat.zero_add]; exact h2)
theorem qmb (m : Md) (l : List Mv) : nF m l ≤ l.length ∧ (∀ j, j < nF m l → okN m l j = true) ∧ (nF m l = l.length ∨ okN m l (nF m l) = false) := by
 have key : ∀ n, n ≤ l.length → (∃ i, i ≤ n ∧ (∀ j, j < i → okN m l j = true) ∧ (i = n ∨ okN m l i = false)) := by
  intro n
  induction n with
  | zero => exact fun _ => ⟨0, Nat.le_refl _, fun j hj => absurd hj (Nat.not_lt_zero j), .inl rfl⟩
  | succ n ih =>
   intro hn
   obtain ⟨i, h1, h2, h3⟩ := ih (by omega)
   rcases h3 with rfl | h3
   ·cases h : okN m l i with
    | true => exact ⟨i + 1, Nat.le_refl _, fun j hj => by rcases Nat.lt_succ_iff_lt_or_eq.1 hj with h' | rfl; exact h2 j h'; exact h, .inl rfl⟩
    | false => exact ⟨i, by omega, h2, .inr h⟩
   ·exact ⟨i, by omega, h2, .inr h3⟩
 obtain ⟨i, h1, h2, h3⟩ := key l.length (Nat.le_refl _)
 rw [qfj h1 h2 h3]
 exact ⟨h1, h2, h3⟩
def qbf (m : Md) (l : List Mv) : List Stt := (List.range (nF m l + 1)).map (stN m l)
theorem qer {m : Md} (hM : ModOk m) (h0 : qg m (qq m) = true) {l : List Mv} : ∀ {i : Nat}, (∀ j, j < i → okN m l j = true) → qg m (stN m l i) = true
 | 0, _ => h0
 | i + 1, h => jed hM (qer hM h0 (i := i) fun j hj => h j (by omega)) (h i (by omega))
def qce (c : Int) (e : Ev) : Bool := decide (e.ch = c ∧ (e.kind = 0 ∨ e.kind = 3))
def isTake (c : Int) (e : Ev) : Bool := decide (e.ch = c ∧ (e.kind = 1 ∨ e.kind = 2))
def jx (E : List Ev) (c : Int) : List Nat := (List.range E.length).filter fun j => qce c (E.getD j {})
def jg (E : List Ev) (c : Int) : Nat := E.countP (isTake c)
def waitOf (E : List Ev) (c : Int) : List Nat := (jx E c).drop (jg E c)
def jy (E : List Ev) (c : Int) : Int := match (jx E c)[jg E c]? with | some j => j | none => -1
theorem qgd {α : Type} (l l' : List α) (d : α) {j : Nat} (h : j < l.length) : (l ++ l').getD j d = l.getD j d := by
 rw [zd, zd, List.getElem?_append_left h]
theorem qrt (E : List Ev) (e : Ev) (c : Int) : jx (E ++ [e]) c = jx E c ++ (if qce c e = true then [E.length] else []) := by
 unfold jx
 rw [List.length_append, List.length_singleton, List.range_succ, List.filter_append]
 congr 1
 ·refine List.filter_congr fun j hj => ?_
  rw [qgd _ _ _ (List.mem_range.1 hj)]
 ·have : (E ++ [e]).getD E.length {} = e := by
   rw [zd, List.getElem?_append_right (Nat.le_refl _), Nat.sub_self]; rfl
  rw [List.filter_cons, this]
  rfl
theorem qru (E : List Ev) (e : Ev) (c : Int) : jg (E ++ [e]) c = jg E c + (if isTake c e = true then 1 else 0) := by
 unfold jg
 rw [List.countP_append, List.countP_cons, List.countP_nil, Nat.zero_add]
theorem qop {E : List Ev} {c : Int} (h : 0 < (waitOf E c).length) : jy E c = ((waitOf E c).getD 0 0 : Nat) := by
 unfold waitOf at h ⊢
 unfold jy
 rw [List.length_drop] at h
 rw [List.getElem?_eq_getElem (by omega), zd, List.getElem?_drop, Nat.add_zero, List.getElem?_eq_getElem (by omega)]
 rfl
end Go.St
end
section
namespace Go.Proofs.YtdoaagphhjggbaaGreat
open List renaming getD_eq_getElem?_getD → zd
open Go Go.Sx Go.RowKit Go.St
set_option maxRecDepth 100000
set_option maxHeartbeats 2000000
theorem jrd (m : Md) (hm : MOk m) (p : Int) (s : List UInt8) : Con Tryz.prog 78 [m.av, iv p, .str s] (iv (varN m p s)) := by
 have hg := hm.glob
 have hsz := hm.sz
 refine zK {} 300 Tryz.func78 (fun c0 rdb => ?_)
 (repeat' ((conv => whnf); first | refine Ob.auto ?_ | (apply zB <;> intro hb <;> (try simp [-zd] at hb) <;> try (exfalso; omega))))
 ·have hp : 0 ≤ p ∧ p < m.procs.length := by assumption
  have hq := hm.procs _ (qi m.procs p.toNat pr0 (by omega))
  have hq2 := hm.psz _ (qi m.procs p.toNat pr0 (by omega))
  have hv : varN m p s = _ := if_pos hp
  ((conv => whnf); refine qio (fun _ => rfl) 300 1 [2, 3, 7] [0, 1] (fun i : Nat => [(8, iv i)]) (fun _ => []) (fun i => i ≤ (m.procs.getD p.toNat pr0).names.length ∧ ∀ j, j < i → ((m.procs.getD p.toNat pr0).names.getD j [] == s) = false) (fun i => (m.procs.getD p.toNat pr0).names.length - i) (0) (⟨by omega, fun j hj => absurd hj (Nat.not_lt_zero j)⟩) qa qa (fun _ => rfl) (by kernel_rfl) ?_; (conv => whnf))
  intro i hi
  (repeat' ((conv => whnf); first | refine Ob.auto ?_ | (apply zB <;> intro hb <;> (try simp [-zd] at hb) <;> try (exfalso; omega))))
  ·refine Le.of_eq (congrArg (AV.int _) ?_)
   have := qez (· == s) (m.procs.getD p.toNat pr0).names [] i (by assumption) (beq_iff_eq.2 (by assumption)) hi.2
   rw [hv, this, if_neg (by omega)]
  ·((conv => whnf); refine ⟨i + 1, ⟨by omega, jm hi.2 (beq_eq_false_iff_ne.2 (by assumption))⟩, ⟨qa, qa⟩, ⟨qa, qa⟩, ?_⟩; (first | omega | (dsimp only; omega) | skip))
  ·refine Le.of_eq (congrArg (AV.int _) ?_)
   have := qfa (· == s) (m.procs.getD p.toNat pr0).names [] (fun j hj => hi.2 j (by omega))
   rw [hv, this, if_pos (by omega)]
 ·have hp : ¬ (0 ≤ p ∧ p < m.procs.length) := by omega
  have hv : varN m p s = _ := if_neg hp
  have htk : ∀ j : Nat, (j : Int) < m.globals → (m.vars.take m.globals.toNat).getD j vr0 = m.vars.getD j vr0 := fun j hj => by
   rw [zd, List.getElem?_take, if_pos (by omega), ← zd]
  have hl : (m.vars.take m.globals.toNat).length = m.globals.toNat := by rw [List.length_take]; omega
  ((conv => whnf); refine qio (fun _ => rfl) 300 1 [2, 3] [0] (fun i : Nat => [(9, iv i)]) (fun _ => []) (fun i => (i : Int) ≤ m.globals ∧ ∀ j, j < i → ((m.vars.getD j vr0).name == s) = false) (fun i => m.globals.toNat - i) (0) (⟨by omega, fun j hj => absurd hj (Nat.not_lt_zero j)⟩) qa qa (fun _ => rfl) (by kernel_rfl) ?_; (conv => whnf))
  intro i hi
  (repeat' ((conv => whnf); first | refine Ob.auto ?_ | (apply zB <;> intro hb <;> (try simp [-zd] at hb) <;> try (exfalso; omega))))
  ·refine Le.of_eq (congrArg (AV.int _) ?_)
   have := qez (fun v : Vr => v.name == s) (m.vars.take m.globals.toNat) vr0 i (by omega) (by rw [htk i (by omega)]; exact beq_iff_eq.2 (by assumption)) (fun j hj => by rw [htk j (by omega)]; exact hi.2 j hj)
   rw [hv, this]
  ·((conv => whnf); refine ⟨i + 1, ⟨by omega, jm hi.2 (beq_eq_false_iff_ne.2 (by assumption))⟩, ⟨qa, qa⟩, ⟨qa, qa⟩, ?_⟩; (first | omega | (dsimp only; omega) | skip))
  ·refine Le.of_eq (congrArg (AV.int _) ?_)
   have := qfa (fun v : Vr => v.name == s) (m.vars.take m.globals.toNat) vr0 (fun j hj => by rw [htk j (by omega)]; exact hi.2 j (by omega))
   rw [hv, this]
theorem qrv (m : Md) (hm : MOk m) (p : Int) (s : Stt) (hs : SOk m s) : ∀ (n : Nat) (k : Int), 0 ≤ k → k < m.tree.length → m.tree.length - k.toNat ≤ n → Con Tryz.prog 49 [m.av, iv p, s.av, iv k] (qjz (valN m p s n k)) := by
  intro n
  induction n with
  | zero => intro k h0 h1 h2; omega
  | succ n ih =>
    intro k h0 h1 h2
    have hnd := hm.tree k.toNat (by omega)
    have h17 := hnd.num
    have h18 := hnd.word
    have h20 := hnd.un
    have h22 := hnd.bin
    have hsz := hm.sz
    have hvb := jam hm hs p n
    have hvl := hs.vl
    have hcl := hs.cl
    refine zK {} 600 Tryz.func49 (fun c0 rdb => ?_)
    (repeat' ((conv => whnf); first | refine Ob.auto ?_ | refine zC 600 (qjb _ _) ?_ | (apply zB <;> intro hb <;> (try simp [-zd] at hb) <;> try (exfalso; omega))))
    · refine Le.of_eq ?_
      rw [valN, if_pos (by assumption)]; rfl
    · have hvn := quk hm p ((m.tree.getD k.toNat nd0).words.getD 0 [])
      ((conv => whnf); refine qjr (fun _ => rfl) (by kernel_rfl) 600 [iv (varN m p ((m.tree.getD k.toNat nd0).words.getD 0 []))] (by kernel_rfl) ?_)
      (repeat' ((conv => whnf); first | refine Ob.auto ?_ | (refine Ob.intro (by (first | exact ⟨by omega, by omega⟩ | exact ⟨_, jrd m hm p _, by rfl, LeL.refl _⟩)) ?_) | (apply zB <;> intro hb <;> (try simp [-zd] at hb) <;> try (exfalso; omega))))
      · refine Le.of_eq ?_
        rw [valN, if_neg (by assumption), if_pos (by assumption), if_pos (by assumption)]; rfl
      · refine Le.of_eq ?_
        rw [valN, if_neg (by assumption), if_pos (by assumption), if_neg (by omega)]; rfl
    · ((conv => whnf); refine qio (fun _ => rfl) 600 1 [4, 6, 10] [0, 1, 2] (fun i : Nat => [(12, iv i)]) (fun _ => []) (fun i => i ≤ m.chans.length ∧ ∀ j, j < i → ((m.chans.getD j ch0).name == (m.tree.getD k.toNat nd0).words.getD 0 []) = false) (fun i => m.chans.length - i) (0) (⟨by omega, fun j hj => absurd hj (Nat.not_lt_zero j)⟩) qa qa (fun _ => rfl) (by kernel_rfl) ?_; (conv => whnf))
      intro i hi
      (repeat' ((conv => whnf); first | refine Ob.auto ?_ | (refine zN 600 ?_) | (apply zB <;> intro hb <;> (try simp [-zd] at hb) <;> try (exfalso; omega))))
      · refine Le.of_eq ?_
        have := qez (fun c : Ch => c.name == (m.tree.getD k.toNat nd0).words.getD 0 []) m.chans ch0 i (by omega) (beq_iff_eq.2 (by assumption)) hi.2
        rw [valN, if_neg (by assumption), if_neg (by assumption), if_pos (by assumption), this, if_neg (by omega)]; rfl
      · ((conv => whnf); refine ⟨i + 1, ⟨by omega, jm hi.2 (beq_eq_false_iff_ne.2 (by assumption))⟩, ⟨qa, qa⟩, ⟨qa, qa⟩, ?_⟩; (first | omega | (dsimp only; omega) | skip))
      · refine Le.of_eq ?_
        have := qfa (fun c : Ch => c.name == (m.tree.getD k.toNat nd0).words.getD 0 []) m.chans ch0 (fun j hj => hi.2 j (by omega))
        rw [valN, if_neg (by assumption), if_neg (by assumption), if_pos (by assumption), this, if_pos (by omega)]; rfl
    · have hk := h20 (.inl (by assumption))
      have hb0 := hvb ((m.tree.getD k.toNat nd0).kids.getD 0 0)
      ((conv => whnf); refine qjr (fun _ => rfl) (by kernel_rfl) 600 [.tup [iv (valN m p s n ((m.tree.getD k.toNat nd0).kids.getD 0 0)).1, .bool (valN m p s n ((m.tree.getD k.toNat nd0).kids.getD 0 0)).2]] (by kernel_rfl) ?_)
      (repeat' ((conv => whnf); first | refine Ob.auto ?_ | (refine Ob.intro (by (first | exact ⟨by omega, by omega⟩ | exact ⟨_, ih _ (by omega) (by omega) (by omega), by rfl, LeL.refl _⟩)) ?_) | refine zC 600 (qjb _ _) ?_ | fail))
      refine Le.of_eq ?_
      rw [valN, if_neg (by assumption), if_neg (by assumption), if_neg (by assumption), if_pos (by assumption)]; rfl
    · have hk := h20 (.inr (by assumption))
      have hb0 := hvb ((m.tree.getD k.toNat nd0).kids.getD 0 0)
      have hv := qul m p s n k (by assumption)
      ((conv => whnf); refine qjr (fun _ => rfl) (by kernel_rfl) 600 [.tup [iv (valN m p s n ((m.tree.getD k.toNat nd0).kids.getD 0 0)).1, .bool (valN m p s n ((m.tree.getD k.toNat nd0).kids.getD 0 0)).2]] (by kernel_rfl) ?_)
      (repeat' ((conv => whnf); first | refine Ob.auto ?_ | (refine Ob.intro (by (first | exact ⟨by omega, by omega⟩ | exact ⟨_, ih _ (by omega) (by omega) (by omega), by rfl, LeL.refl _⟩)) ?_) | refine zC 600 (jcv _) ?_ | fail))
      refine Le.of_eq ?_
      rw [hv]; rfl
    · have hk := h22 (by assumption)
      have hb0 := hvb ((m.tree.getD k.toNat nd0).kids.getD 0 0)
      have hb1 := hvb ((m.tree.getD k.toNat nd0).kids.getD 1 0)
      have hv := qum m p s n k (by assumption)
      have hnt : (m.tree.getD k.toNat nd0).nums.getD (Int.toNat 0) 0 = (m.tree.getD k.toNat nd0).nums.getD 0 0 := rfl
      rw [hv]
      generalize hA : valN m p s n ((m.tree.getD k.toNat nd0).kids.getD 0 0) = A at hb0 hv ⊢
      generalize hB : valN m p s n ((m.tree.getD k.toNat nd0).kids.getD 1 0) = B at hb1 hv ⊢
      have ihA := ih ((m.tree.getD k.toNat nd0).kids.getD 0 0) (by omega) (by omega) (by omega)
      have ihB := ih ((m.tree.getD k.toNat nd0).kids.getD 1 0) (by omega) (by omega) (by omega)
      rw [hA] at ihA
      rw [hB] at ihB
      obtain ⟨a, x⟩ := A
      obtain ⟨b, y⟩ := B
      simp only at hb0 hb1
      ((conv => whnf); refine qjr (fun _ => rfl) (by kernel_rfl) 600 [.tup [iv a, .bool x]] (by kernel_rfl) ?_)
      (repeat' ((conv => whnf); first | refine Ob.auto ?_ | (refine Ob.intro (by (first | exact ⟨by omega, by omega⟩ | exact ⟨_, ihA, by rfl, LeL.refl _⟩)) ?_) | fail))
      ((conv => whnf); refine qjr (fun _ => rfl) (by kernel_rfl) 600 [.tup [iv b, .bool y]] (by kernel_rfl) ?_)
      (repeat' ((conv => whnf); first | refine Ob.auto ?_ | (refine Ob.intro (by (first | exact ⟨by omega, by omega⟩ | exact ⟨_, ihB, by rfl, LeL.refl _⟩ | exact qdv (by omega) (by omega))) ?_) | refine zC 600 (jcv _) ?_ | refine zC 600 (jpz _ _ _ (by omega) (by omega)) ?_ | (apply zB <;> intro hb <;> (try simp [-zd] at hb) <;> try (exfalso; omega))))
      all_goals
        refine Le.of_eq ?_
        clear ih ihA ihB hm hs hnd h17 h18 h20 h22 hvb hA hB hv
        have hs8 := hk.2.2.2
        first
          | (rw [jms _ hs8 (by assumption)]; rfl)
          | (rw [jmt _ (And.left (by assumption))]
             first
               | (rw [jmr _ _ _ hs8 (by omega) (by omega)]; rfl)
               | (rw [‹(m.tree.getD k.toNat nd0).nums.getD 0 0 = _›]; rfl))
    · refine Le.of_eq ?_
      rw [valN, if_neg (by assumption), if_neg (by assumption), if_neg (by assumption), if_neg (by assumption), if_neg (by assumption), if_neg (by assumption)]; rfl
end Go.Proofs.YtdoaagphhjggbaaGreat
end
section
namespace Go.Proofs.YtdoaagphhjggbaaGreat
open Go Go.Sx Go.RowKit Go.St
set_option maxRecDepth 100000
set_option maxHeartbeats 2000000

end Go.Proofs.YtdoaagphhjggbaaGreat
end
section
namespace Go.Proofs.YtdoaagphhjggbaaGreat
open List renaming getD_eq_getElem?_getD → zd
open Go Go.Sx Go.RowKit Go.St
set_option maxRecDepth 100000
set_option maxHeartbeats 2000000
theorem jre (m : Md) (hm : MOk m) (s : Stt) (hs : SOk m s) : Con Tryz.prog 48 [m.av, s.av] (.bool (qln m s)) := by
 have hsz := hm.sz
 have hsf := hm.safe
 refine zK {} 300 Tryz.func48 (fun c0 rdb => ?_)
 ((conv => whnf); refine qj (fun _ => rfl) 300 1 (fun i : Nat => [(5, iv i)]) (fun _ => []) (fun i => i ≤ m.safe.length ∧ ∀ j, j < i → qka m s (m.safe.getD j 0) = true) (fun i => m.safe.length - i) (0) (⟨by omega, fun j hj => absurd hj (Nat.not_lt_zero j)⟩) qa qa (fun _ => rfl) (by kernel_rfl) ?_; (conv => whnf))
 intro i hi
 have hki : i < m.safe.length → _ := fun h => hsf _ (qi m.safe i 0 h)
 (repeat' ((conv => whnf); first | refine zO ?_ | refine Ob.auto ?_ | refine zX (qrv m hm (-1) s hs m.tree.length (m.safe.getD i 0) (hki (by omega)).1 (hki (by omega)).2 (by omega)) ?_ | (refine zP 300 ?_) | (apply zB <;> intro hb <;> (try simp [-zd] at hb) <;> try (exfalso; omega))))
 ·refine Le.of_eq (congrArg AV.bool ?_)
  refine (qni 0 (j := i) (by omega) ?_).symm
  simp only [qka, val]
  rcases hb with hb | hb <;> simp [-zd, hb]
 ·((conv => whnf); refine ⟨i + 1, ⟨by omega, jm hi.2 (by simp only [qka, val]; simp [-zd, hb])⟩, ⟨qa, qa⟩, ⟨qa, qa⟩, ?_⟩; (first | omega | (dsimp only; omega) | skip))
 ·refine Le.of_eq (congrArg AV.bool ?_)
  exact (qnh 0 (fun j hj => hi.2 j (by omega))).symm
end Go.Proofs.YtdoaagphhjggbaaGreat
end
