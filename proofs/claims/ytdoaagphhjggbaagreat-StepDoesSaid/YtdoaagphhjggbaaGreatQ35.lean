/- Some texts of the library, one behind the other. -/
import Derived.Test.YtdoaagphhjggbaaGreatQ5
import Derived.Test.YtdoaagphhjggbaaGreatQ29
import Derived.Test.YtdoaagphhjggbaaGreatQ34
import Derived.Test.YtdoaagphhjggbaaGreatQ2
section
/- Steps in plain Lean: the moves of a state are those that are allowed, and what fits leads to what fits. Nothing of the program. -/
namespace Go.St
open List renaming getD_eq_getElem?_getD → zd
open Go Go.Sx
theorem qlp {α : Type} (l : List α) (i j : Nat) (x d : α) : (l.set i x).getD j d = if j = i ∧ i < l.length then x else l.getD j d := by
 rw [zd, zd, List.getElem?_set]
 by_cases h : i = j
 ·subst h
  by_cases h2 : i < l.length
  ·rw [if_pos rfl, if_pos h2, if_pos ⟨rfl, h2⟩]; rfl
  ·rw [if_pos rfl, if_neg h2, if_neg (fun h => h2 h.2), List.getElem?_eq_none (by omega)]
 ·rw [if_neg h, if_neg (fun h2 => h h2.1.symm)]
section
variable {m : Md} {s : Stt}
theorem jqa (hf : qq m s = true) (p : Nat) (x : Int) (hx : 0 ≤ x ∧ x < (m.procs.getD p Pr.none).places) : qq m { s with at_ := s.at_.set p x } = true := by
 obtain ⟨h0, hA, hV, hC⟩ := (jj m s).1 hf
 refine (jj m _).2 ⟨⟨by simpa using h0.1, h0.2.1, h0.2.2.1, h0.2.2.2⟩, fun i hi => ?_, hV, hC⟩
 have hi' : i < s.at_.length := by simpa using hi
 have := hA i hi'
 unfold qjt at *
 simp only
 rw [qlp]
 split
 ·rename_i h; rw [h.1]; exact hx
 ·exact this
theorem jdn (hf : qq m s = true) (k : Nat) (x : Int) (hx : trim x (m.vars.getD k Vr.none).width = x) : qq m { s with vars := s.vars.set k x } = true := by
 obtain ⟨h0, hA, hV, hC⟩ := (jj m s).1 hf
 refine (jj m _).2 ⟨⟨h0.1, by simpa using h0.2.1, h0.2.2.1, h0.2.2.2⟩, hA, fun i hi => ?_, hC⟩
 have hi' : i < s.vars.length := by simpa using hi
 have := hV i hi'
 unfold qju at *
 simp only
 rw [qlp]
 split
 ·rename_i h; rw [h.1]; exact hx
 ·exact this
theorem qre (hf : qq m s = true) (k : Nat) (c : List Int) (hc : (c.length : Int) ≤ (m.chans.getD k Ch.none).room) (hx : ∀ x ∈ c, trim x (m.chans.getD k Ch.none).width = x) : qq m { s with chans := s.chans.set k c } = true := by
 obtain ⟨h0, hA, hV, hC⟩ := (jj m s).1 hf
 refine (jj m _).2 ⟨⟨h0.1, h0.2.1, by simpa using h0.2.2.1, h0.2.2.2⟩, hA, hV, fun i hi => ?_⟩
 have hi' : i < s.chans.length := by simpa using hi
 have := hC i hi'
 unfold qep qhj at *
 simp only
 rw [qlp]
 split
 ·rename_i h; rw [h.1]; exact ⟨hc, fun q hq => hx _ (qj _ _ _ hq)⟩
 ·exact this
theorem qlq (hf : qq m s = true) (h : Int) (hh : -1 ≤ h ∧ h < m.procs.length) : qq m { s with holder := h } = true := by
 obtain ⟨h0, hA, hV, hC⟩ := (jj m s).1 hf
 exact (jj m _).2 ⟨⟨h0.1, h0.2.1, h0.2.2.1, hh⟩, hA, hV, hC⟩
theorem qoc (hf : qq m s = true) (k : Nat) : ∀ x ∈ s.chans.getD k [], trim x (m.chans.getD k Ch.none).width = x := by
 obtain ⟨h0, hA, hV, hC⟩ := (jj m s).1 hf
 intro x hx
 by_cases hk : k < s.chans.length
 ·obtain ⟨q, hq, rfl⟩ := List.mem_iff_getElem.1 hx
  have := (hC k hk).2 q hq
  unfold qhj at this
  rw [zd (l := s.chans.getD k []), List.getElem?_eq_getElem hq] at this
  exact this
 ·rw [zd, List.getElem?_eq_none (by omega)] at hx
  simp at hx
theorem qmc (hf : qq m s = true) {k : Nat} (hk : k < m.chans.length) : ((s.chans.getD k []).length : Int) ≤ (m.chans.getD k Ch.none).room := by
 obtain ⟨h0, _, _, hC⟩ := (jj m s).1 hf
 exact (hC k (by rw [h0.2.2.1]; exact hk)).1
theorem qbt (hM : ModOk m) (hf : qq m s = true) : SSz s := by
 have h0 := ((jj m s).1 hf).1
 have hz := hM.sz
 refine ⟨by rw [h0.1]; omega, by rw [h0.2.1]; omega, by rw [h0.2.2.1]; omega, fun c hc => ?_⟩
 obtain ⟨i, hi, rfl⟩ := List.mem_iff_getElem.1 hc
 have hi' : i < m.chans.length := by rw [← h0.2.2.1]; exact hi
 have h1 := qmc hf hi'
 have h2 := hM.ok.chan _ (qj m.chans i Ch.none hi')
 rw [zd, List.getElem?_eq_getElem hi] at h1
 simp only [Option.getD_some] at h1
 omega
def qah (m : Md) (s : Stt) (v : Mv) : Bool :=
 if v.kind = 0 then decide (v.chn = 0 ∧ (s.holder = -1 ∨ s.holder = v.proc)) && (decide (0 ≤ v.proc ∧ v.proc < m.procs.length ∧ 0 ≤ v.edge ∧ v.edge < (qr m v.proc.toNat).length) && canB m s v.proc.toNat ((qr m v.proc.toNat).getD v.edge.toNat Ed.none))
 else if v.kind = 1 ∨ v.kind = 2 then decide (s.holder = -1 ∧ v.proc = 0 ∧ v.edge = 0 ∧ 0 ≤ v.chn ∧ v.chn < m.chans.length) && (if v.kind = 1 then qjw m s v.chn.toNat else qim m s v.chn.toNat)
 else false
theorem mem_edgeMoves {p : Nat} {v : Mv} : v ∈ qhl m s p ↔ v.kind = 0 ∧ v.proc = p ∧ v.chn = 0 ∧ (0 ≤ v.edge ∧ v.edge < (qr m p).length) ∧ canB m s p ((qr m p).getD v.edge.toNat Ed.none) = true := by
 unfold qhl
 simp only [List.mem_map, List.mem_filter, List.mem_range]
 constructor
 ·rintro ⟨i, ⟨h1, h2⟩, rfl⟩
  exact ⟨rfl, rfl, rfl, ⟨Int.natCast_nonneg _, by simp only; omega⟩, h2⟩
 ·rintro ⟨h1, h2, h3, ⟨h4, h5⟩, h6⟩
  refine ⟨v.edge.toNat, ⟨by omega, h6⟩, ?_⟩
  cases v with
  | mk k p' e c => simp only at *; subst h1 h2 h3; rw [Int.toNat_of_nonneg h4]
theorem mem_chanMoves {c : Nat} {v : Mv} : v ∈ qeb m s c ↔ (v.proc = 0 ∧ v.edge = 0 ∧ v.chn = c) ∧ (v.kind = 1 ∧ qjw m s c = true ∨ v.kind = 2 ∧ qim m s c = true) := by
 unfold qeb
 rw [List.mem_append]
 constructor
 ·rintro (h | h)
  ·split at h
   ·rw [List.mem_singleton] at h; subst h; exact ⟨⟨rfl, rfl, rfl⟩, .inl ⟨rfl, by assumption⟩⟩
   ·simp at h
  ·split at h
   ·rw [List.mem_singleton] at h; subst h; exact ⟨⟨rfl, rfl, rfl⟩, .inr ⟨rfl, by assumption⟩⟩
   ·simp at h
 ·rintro ⟨⟨h1, h2, h3⟩, h⟩
  cases v with
  | mk k p' e c' =>
   simp only at *
   subst h1 h2 h3
   rcases h with ⟨rfl, h⟩ | ⟨rfl, h⟩
   ·left; rw [if_pos h]; simp
   ·right; rw [if_pos h]; simp
theorem jqb {v : Mv} : v ∈ qcb m s ↔ qah m s v = true := by
 unfold qcb
 rw [List.mem_append, List.mem_flatMap]
 unfold qah
 constructor
 ·rintro (⟨p, hp, h⟩ | h)
  ·rw [List.mem_range] at hp
   split at h
   ·simp at h
   ·rename_i hh
    obtain ⟨h1, h2, h3, h4, h5⟩ := mem_edgeMoves.1 h
    rw [if_pos h1, h2, Int.toNat_natCast, h5, decide_eq_true ⟨h3, by omega⟩, decide_eq_true ⟨Int.natCast_nonneg _, by omega, h4⟩]; rfl
  ·split at h
   ·rename_i hh
    rw [List.mem_flatMap] at h
    obtain ⟨c, hc, h⟩ := h
    rw [List.mem_range] at hc
    obtain ⟨⟨h1, h2, h3⟩, h4⟩ := mem_chanMoves.1 h
    rw [if_neg (by omega), if_pos (by omega), h3, Int.toNat_natCast, decide_eq_true ⟨hh, h1, h2, Int.natCast_nonneg _, by omega⟩, Bool.true_and]
    rcases h4 with ⟨h4, h5⟩ | ⟨h4, h5⟩
    ·rw [if_pos h4]; exact h5
    ·rw [if_neg (by omega)]; exact h5
   ·simp at h
 ·intro h
  split at h
  ·rename_i h1
   rw [Bool.and_eq_true, Bool.and_eq_true] at h
   obtain ⟨h2, h3, h4⟩ := h
   have h2 := of_decide_eq_true h2
   have h3 := of_decide_eq_true h3
   refine .inl ⟨v.proc.toNat, List.mem_range.2 (by omega), ?_⟩
   rw [if_neg (by omega)]
   exact mem_edgeMoves.2 ⟨h1, by omega, h2.1, h3.2.2, h4⟩
  ·split at h
   ·rename_i h0 h1
    rw [Bool.and_eq_true] at h
    obtain ⟨h2, h3⟩ := h
    have h2 := of_decide_eq_true h2
    right
    rw [if_pos h2.1, List.mem_flatMap]
    refine ⟨v.chn.toNat, List.mem_range.2 (by omega), mem_chanMoves.2 ⟨⟨h2.2.1, h2.2.2.1, by omega⟩, ?_⟩⟩
    split at h3
    ·exact .inl ⟨by assumption, h3⟩
    ·exact .inr ⟨by omega, h3⟩
   ·cases h
theorem edOk (hM : ModOk m) {p : Nat} (hp : p < m.procs.length) {i : Nat} (hi : i < (qr m p).length) : EdOk m.tree.length m.vars.length m.chans.length (m.procs.getD p Pr.none).places ((qr m p).getD i Ed.none) :=
 (hM.pr _ (qj _ _ _ hp)).ed _ (qj _ _ _ hi)
theorem qod (hM : ModOk m) (hf : qq m s = true) {p : Nat} {e : Ed} (hto : 0 ≤ e.to ∧ e.to < (m.procs.getD p Pr.none).places) (hcn : e.act = 2 → qlen s e.chn < room m e.chn) : qq m (qo m s p e) = true := by
 have h0 := ((jj m s).1 hf).1
 have ha := qlq (jqa hf p e.to hto) (-1) ⟨Int.le_refl _, by omega⟩
 unfold qo
 simp only
 split
 ·exact jdn ha _ _ (qnd _ _)
 split
 ·rename_i h2
  have := hcn h2
  unfold qlen room at this
  refine qre ha _ _ (by simp only [List.length_append, List.length_singleton]; omega) (fun x hx => ?_)
  rw [List.mem_append, List.mem_singleton] at hx
  rcases hx with hx | rfl
  ·exact qoc hf _ x hx
  ·exact qnd _ _
 split
 ·have hb := jdn ha e.var.toNat (trim ((s.chans.getD e.chn.toNat []).getD 0 0) (m.vars.getD e.var.toNat Vr.none).width) (qnd _ _)
  refine qre hb _ _ ?_ (fun x hx => qoc hf _ x (List.mem_of_mem_drop hx))
  rw [List.length_drop]
  by_cases hk : e.chn.toNat < m.chans.length
  ·have := qmc hf hk; omega
  ·rw [zd (l := s.chans), List.getElem?_eq_none (by omega)]
   rw [zd, List.getElem?_eq_none (by omega)]
   simp [Ch.none]
 ·exact ha
theorem qoe {p : Nat} {e : Ed} (h : canB m s p e = true) (h2 : e.act = 2) : qlen s e.chn < room m e.chn := by
 unfold canB at h
 rw [if_pos h2, Bool.and_eq_true] at h
 exact of_decide_eq_true h.2
theorem jdo (hM : ModOk m) (hf : qq m s = true) {v : Mv} (hv : qah m s v = true) : qq m (qcc m s v) = true := by
 have h0 := ((jj m s).1 hf).1
 unfold qah at hv
 unfold qcc
 split at hv
 ·rename_i hk
  rw [Bool.and_eq_true, Bool.and_eq_true] at hv
  obtain ⟨h2, h3, h4⟩ := hv
  have h3 := of_decide_eq_true h3
  rw [if_neg (by omega), if_neg (by omega)]
  have hp : v.proc.toNat < m.procs.length := by omega
  have he := edOk hM hp (i := v.edge.toNat) (by omega)
  unfold qec
  refine qlq (qod hM hf he.to (qoe h4)) _ ?_
  split <;> omega
 ·split at hv
  ·rw [Bool.and_eq_true] at hv
   obtain ⟨h2, h3⟩ := hv
   have h2 := of_decide_eq_true h2
   have hc : v.chn.toNat < m.chans.length := by omega
   have hl := qmc hf hc
   split
   ·refine qlq (s := { s with chans := s.chans.set v.chn.toNat ((s.chans.getD v.chn.toNat []).drop 1) }) (qre hf _ _ (by rw [List.length_drop]; omega) (fun x hx => qoc hf _ x (List.mem_of_mem_drop hx))) (-1) ⟨Int.le_refl _, by omega⟩
   ·rename_i h1
    rw [if_neg h1] at h3
    rw [if_pos (by omega)]
    unfold qim qlen room at h3
    simp only [Bool.and_eq_true, decide_eq_true_eq, Int.toNat_natCast] at h3
    refine qlq (s := { s with chans := s.chans.set v.chn.toNat (s.chans.getD v.chn.toNat [] ++ [(s.chans.getD v.chn.toNat []).getD 0 0]) }) (qre hf _ _ (by simp only [List.length_append, List.length_singleton]; omega) (fun x hx => ?_)) (-1) ⟨Int.le_refl _, by omega⟩
    rw [List.mem_append, List.mem_singleton] at hx
    rcases hx with hx | rfl
    ·exact qoc hf _ x hx
    ·exact qoc hf _ _ (qj _ _ _ (by omega))
  ·cases hv
def Stt.zero : Stt := ⟨[], [], [], 0⟩
def doB (m : Md) (s : Stt) (v : Mv) : Bool := qq m s && qah m s v
def qgt (m : Md) (s : Stt) (v : Mv) : Stt := if doB m s v = true then qcc m s v else Stt.zero
end
end Go.St
end
section
/- Contracts: a state's clone. -/
namespace Go.Proofs.YtdoaagphhjggbaaGreat
open Go Go.Sx Go.RowKit Go.St
set_option maxRecDepth 100000
set_option maxHeartbeats 4000000
theorem qvn {k i : Nat} (h : k ≠ i) : (k < i + 1) = (k < i) := propext ⟨fun _ => by omega, fun _ => by omega⟩
theorem qiw {f g : Nat → List AV} {m q : Nat} (hq : q < m) : appF 0 f m g q = g q := by
 unfold appF
 rw [if_neg (by omega), if_pos (by omega), Nat.sub_zero]
theorem jqc (l : List Int) (hl : l.length ≤ 1000000) : Con Tryz.prog 81 [ints l] (ints l) := by
 refine qc (T := tab Tryz.prog) (C := {}) 300 (fun _ => rfl) Tryz.func81 rfl (by kernel_rfl) (by kernel_rfl) (fun c0 rdb => ?_)
 (repeat' ((conv => whnf); first | refine Ob.auto ?_ | (refine Ob.intro (by ((refine ⟨by omega, by omega, by omega, ?_⟩; dsimp only; refine Int.le_trans (Int.mul_le_mul_of_nonneg_right (?_ : _ ≤ (4000001 : Int)) (Int.natCast_nonneg _)) (by decide +kernel); omega))) ?_) | fail))
 exact Le.slc (by simp) (fun q hq => qiw (by simpa using hq))
theorem qof (l : List Int) (hl : l.length ≤ 1000000) : Trip Tryz.prog 81 [ints l] [] (.own 0 0 0 l.length) [(0, .row [] 3 1 0 l.length (encL (fun n => [iv n]) 0 l))] 1 := by
 refine qck (T := tab Tryz.prog) (C := {}) 300 (fun _ => rfl) Tryz.func81 rfl (by kernel_rfl) (by kernel_rfl) (fun c0 rdb mpb => ?_)
 (repeat' ((conv => whnf); first | refine Ob.auto ?_ | (refine Ob.intro (by ((refine ⟨by omega, by omega, by omega, ?_⟩; dsimp only; refine Int.le_trans (Int.mul_le_mul_of_nonneg_right (?_ : _ ≤ (4000001 : Int)) (Int.natCast_nonneg _)) (by decide +kernel); omega))) ?_) | fail))
 refine ⟨Le.of_eq (by simp), ⟨⟨rfl, rfl, by simp⟩, rfl, by simp, fun q hq => LeL.of_eq (qiw (by simpa using hq))⟩, trivial⟩
theorem jdq (s : Stt) (hs : SSz s) : Trip Tryz.prog 51 [s.av] [] (.agg [.own 4 0 0 s.at_.length, .own 8 0 0 s.vars.length, .own 13 0 0 s.chans.length, iv s.holder])
  [(4, .row [] 3 1 0 s.at_.length (encL (fun n => [iv n]) 0 s.at_)), (8, .row [] 3 1 0 s.vars.length (encL (fun n => [iv n]) 0 s.vars)), (13, .row [] 23 1 0 s.chans.length (encL (fun c => [ints c]) [] s.chans))] 14 := by
 have ha := hs.a
 have hv := hs.v
 have hc := hs.c
 have hl := hs.l
 refine qck (T := tab Tryz.prog) (C := {}) 300 (fun _ => rfl) Tryz.func51 rfl (by kernel_rfl) (by kernel_rfl) (fun c0 rdb mpb => ?_)
 ((conv => whnf); refine qaw (fun _ => rfl) (by kernel_rfl) 300 [.new [ints s.at_] (.own 0 0 0 s.at_.length) [(0, .row [] 3 1 0 s.at_.length (encL (fun n => [iv n]) 0 s.at_))] 1, .new [ints s.vars] (.own 0 0 0 s.vars.length) [(0, .row [] 3 1 0 s.vars.length (encL (fun n => [iv n]) 0 s.vars))] 1] (by kernel_rfl) ?_)
 (repeat' ((conv => whnf); first | refine Ob.auto ?_ | (refine Ob.intro (by (first | (refine ⟨by omega, by omega, by omega, ?_⟩; dsimp only; refine Int.le_trans (Int.mul_le_mul_of_nonneg_right (?_ : _ ≤ (4000001 : Int)) (Int.natCast_nonneg _)) (by decide +kernel); omega) | exact ⟨qof s.at_ hs.a, by rfl, LeL.refl _, by kernel_rfl, by kernel_rfl, by exact qb rfl⟩ | exact ⟨qof s.vars hs.v, by rfl, LeL.refl _, by kernel_rfl, by kernel_rfl, by exact qb rfl⟩)) ?_) | fail))
 ((conv => whnf); refine qn (fun _ => rfl) 300 1 (fun i : Nat => [(22, iv i)]) (fun i => [(13, .row [] 23 1 0 s.chans.length (fun k => [if k < i then ints (s.chans.getD k []) else .nils]))]) (fun i => i ≤ s.chans.length) (fun i => s.chans.length - i) (0) (by omega) qa ⟨qbh (fun k _ => by rw [if_neg (Nat.not_lt_zero k)]; rfl), trivial⟩ (fun _ => rfl) (by kernel_rfl) ?_; (conv => whnf))
 intro i hi
 (repeat' ((conv => whnf); first | refine Ob.auto ?_ | (apply zB <;> intro hb <;> (try simp [-List.getD_eq_getElem?_getD] at hb) <;> try (exfalso; omega))))
 ·((conv => whnf); refine qaw (fun _ => rfl) (by kernel_rfl) 300 [.con (ints (s.chans.getD i []))] (by kernel_rfl) ?_)
  (repeat' ((conv => whnf); first | refine Ob.auto ?_ | (refine Ob.intro (by (first | exact ⟨by omega, by omega⟩ | exact ⟨_, jqc (s.chans.getD i []) (hl _ (qj _ _ _ (by omega))), by rfl, LeL.refl _⟩)) ?_) | fail))
  ((conv => whnf); refine ⟨i + 1, by omega, ⟨qa, qa⟩, ⟨qa, qa⟩, ?_⟩; (first | omega | (dsimp only; omega) | skip))
 ·obtain rfl : i = s.chans.length := by omega
  exact ⟨Le.refl _, ⟨⟨rfl, rfl, rfl⟩, rfl, rfl, fun q hq => LeL.refl _⟩, ⟨⟨rfl, rfl, rfl⟩, rfl, rfl, fun q hq => LeL.refl _⟩, qbh (fun k hk => by rw [if_pos (by simpa using hk)]; rfl), trivial⟩
theorem jdr (s : Stt) (hs : SSz s) : Trip Tryz.prog 51 [s.av] [] (.agg [.own 4 0 0 s.at_.length, .own 8 0 0 s.vars.length, .own 13 0 0 s.chans.length, iv s.holder])
  [(4, .row [] 3 1 0 s.at_.length (encL (fun n => [iv n]) 0 s.at_)), (8, .row [] 3 1 0 s.vars.length (encL (fun n => [iv n]) 0 s.vars)), (13, .row [19] 23 1 0 s.chans.length (fun k => [.own 19 k 1 (s.chans.getD k []).length])),
   (19, .fam 3 1 s.chans.length (fun _ => 1) (fun k => (s.chans.getD k []).length) (fun k => encL (fun n => [iv n]) 0 (s.chans.getD k [])))] 20 := by
 have ha := hs.a
 have hv := hs.v
 have hc := hs.c
 have hl := hs.l
 refine qck (T := tab Tryz.prog) (C := {}) 300 (fun _ => rfl) Tryz.func51 rfl (by kernel_rfl) (by kernel_rfl) (fun c0 rdb mpb => ?_)
 ((conv => whnf); refine qaw (fun _ => rfl) (by kernel_rfl) 300 [.new [ints s.at_] (.own 0 0 0 s.at_.length) [(0, .row [] 3 1 0 s.at_.length (encL (fun n => [iv n]) 0 s.at_))] 1, .new [ints s.vars] (.own 0 0 0 s.vars.length) [(0, .row [] 3 1 0 s.vars.length (encL (fun n => [iv n]) 0 s.vars))] 1] (by kernel_rfl) ?_)
 (repeat' ((conv => whnf); first | refine Ob.auto ?_ | (refine Ob.intro (by (first | (refine ⟨by omega, by omega, by omega, ?_⟩; dsimp only; refine Int.le_trans (Int.mul_le_mul_of_nonneg_right (?_ : _ ≤ (4000001 : Int)) (Int.natCast_nonneg _)) (by decide +kernel); omega) | exact ⟨qof s.at_ hs.a, by rfl, LeL.refl _, by kernel_rfl, by kernel_rfl, by exact qb rfl⟩ | exact ⟨qof s.vars hs.v, by rfl, LeL.refl _, by kernel_rfl, by kernel_rfl, by exact qb rfl⟩)) ?_) | fail))
 refine qym 13 3 1 rfl (fun _ _ => rfl) ?_
 ((conv => whnf); refine jdp (fun _ => rfl) 300 1 (fun i : Nat => [(22, iv i)]) (fun i => [(13, .row [19] 23 1 0 s.chans.length (fun k => [.own 19 k (if k < i then 1 else 0) (if k < i then (s.chans.getD k []).length else 0)])), (19, .fam 3 1 s.chans.length (fun k => if k < i then 1 else 0) (fun k => if k < i then (s.chans.getD k []).length else 0) (fun k => encL (fun n => [iv n]) 0 (s.chans.getD k [])))]) (fun i => i ≤ s.chans.length) (fun i => s.chans.length - i) (0) (by omega) qa ⟨qbh (fun k _ => by rw [if_neg (Nat.not_lt_zero k), if_neg (Nat.not_lt_zero k)]), qea (fun k _ => by rw [if_neg (Nat.not_lt_zero k)]) (fun k _ => by rw [if_neg (Nat.not_lt_zero k)]) (fun k j _ hj => absurd hj (Nat.not_lt_zero _)), trivial⟩ (fun _ => rfl) (by kernel_rfl) ?_; (conv => whnf))
 intro i hi
 (repeat' ((conv => whnf); first | refine Ob.auto ?_ | (apply zB <;> intro hb <;> (try simp [-List.getD_eq_getElem?_getD] at hb) <;> try (exfalso; omega))))
 ·have hci := hl _ (qj s.chans i [] (by omega))
  ((conv => whnf); refine qaw (fun _ => rfl) (by kernel_rfl) 300 [.new [ints (s.chans.getD i [])] (.own 0 0 0 (s.chans.getD i []).length) [(0, .row [] 3 1 0 (s.chans.getD i []).length (encL (fun n => [iv n]) 0 (s.chans.getD i [])))] 1] (by kernel_rfl) ?_)
  (repeat' ((conv => whnf); first | refine Ob.auto ?_ | (refine Ob.intro (by (first | exact ⟨by omega, by omega⟩ | exact ⟨qof _ hci, by rfl, LeL.refl _, by kernel_rfl, by kernel_rfl, by exact qb rfl⟩)) ?_) | fail))
  ((conv => whnf); refine ⟨i + 1, by omega, ⟨_, Turn.absorb 13 19 24 i rfl rfl rfl (by omega) (by decide) (by exact if_pos rfl) (fun k _ hne => ⟨_, _, if_neg hne⟩), ⟨qa, ⟨qbh (fun k _ => ?_), qea (fun k _ => ?_) (fun k _ => ?_) (fun k j _ hj => ?_), trivial⟩⟩, ⟨qa, qa⟩⟩, ?_⟩; (first | omega | (dsimp only; omega) | skip))
  ·by_cases hki : k = i
   ·subst hki
    refine (if_pos rfl).trans ?_
    simp
   ·refine (if_neg hki).trans ((if_neg hki).trans ?_)
    simp only [qvn hki]
  ·unfold upd
   by_cases hki : k = i
   ·subst hki; simp
   ·rw [if_neg hki]; simp only [qvn hki]
  ·unfold upd
   by_cases hki : k = i
   ·subst hki; simp
   ·rw [if_neg hki]; simp only [qvn hki]
  ·unfold upd
   by_cases hki : k = i
   ·subst hki; rw [if_pos rfl]
   ·rw [if_neg hki]
  ·omega
 ·obtain rfl : i = s.chans.length := by omega
  exact ⟨Le.refl _, ⟨⟨rfl, rfl, rfl⟩, rfl, rfl, fun q hq => LeL.refl _⟩, ⟨⟨rfl, rfl, rfl⟩, rfl, rfl, fun q hq => LeL.refl _⟩, qbh (fun k hk => by rw [if_pos hk, if_pos hk]), qea (fun k hk => by rw [if_pos hk]) (fun k hk => by rw [if_pos hk]) (fun _ _ _ _ => rfl), trivial⟩
end Go.Proofs.YtdoaagphhjggbaaGreat
end
section
/- Contracts: which moves are allowed. -/
namespace Go.Proofs.YtdoaagphhjggbaaGreat
open Go Go.Sx Go.RowKit Go.St
set_option maxRecDepth 100000
set_option maxHeartbeats 4000000
theorem qog (m : Md) (hM : ModOk m) (s : Stt) (hf : qq m s = true) (v : Mv) : Con Tryz.prog 50 [m.av, s.av, v.av] (.bool (qah m s v)) := by
 have hs := qbt hM hf
 have hcl := ((jj m s).1 hf).1.2.2.1
 have hen := jdm m hM.ok s hs (fun q hq => (hM.pr q hq).ed)
 obtain ⟨k, p, e, c⟩ := v
 by_cases hc : 0 ≤ c
 ·obtain ⟨c, rfl⟩ := Int.eq_ofNat_of_zero_le hc
  refine qc (T := tab Tryz.prog) (C := {}) 300 (fun _ => rfl) Tryz.func50 rfl (by kernel_rfl) (by kernel_rfl) (fun c0 rdb => ?_)
  (repeat' ((conv => whnf); first | refine Ob.auto ?_ | refine zG 300 (fun hg => hen p e) ?_ | refine zC 300 (jdj m hM.ok s hcl c (by omega)) ?_ | refine zC 300 (jdk m hM.ok s hcl c (by omega)) ?_ | (apply zB <;> intro hb <;> (try simp [-List.getD_eq_getElem?_getD] at hb) <;> try (exfalso; omega))))
  all_goals refine Le.of_eq (congrArg AV.bool ?_)
  ·subst hb
   rw [Bool.eq_iff_iff]; simp [qah, qlo, hf, and_assoc]
  all_goals (rw [Bool.eq_iff_iff]; simp [qah, *])
  all_goals omega
 ·refine qc (T := tab Tryz.prog) (C := {}) 300 (fun _ => rfl) Tryz.func50 rfl (by kernel_rfl) (by kernel_rfl) (fun c0 rdb => ?_)
  (repeat' ((conv => whnf); first | refine Ob.auto ?_ | refine zG 300 (fun hg => hen p e) ?_ | (apply zB <;> intro hb <;> (try simp [-List.getD_eq_getElem?_getD] at hb) <;> try (exfalso; omega))))
  all_goals refine Le.of_eq (congrArg AV.bool ?_)
  ·subst hb
   rw [Bool.eq_iff_iff]; simp [qah, qlo, hf, and_assoc]
  all_goals (rw [Bool.eq_iff_iff]; simp [qah, *])
  all_goals omega
end Go.Proofs.YtdoaagphhjggbaaGreat
end
