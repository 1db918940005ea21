/- Some texts of the library, one behind the other. -/
import Derived.Test.YtdoaagphhjggbaaGreatQ32
import Derived.Test.YtdoaagphhjggbaaGreatQ31
import Derived.Test.YtdoaagphhjggbaaGreatQ2
section
namespace Go.Proofs.YtdoaagphhjggbaaGreat
open List renaming getD_eq_getElem?_getD → zd
open Go Go.Sx Go.RowKit Go.St
set_option maxRecDepth 100000
set_option maxHeartbeats 2000000
theorem jqx (v : Vr) (s : List UInt8) : Con Tryz.prog 110 [.agg v.cells, .rptr [.str s]] (.bool (v.name == s)) := by
 refine zK {} 300 Tryz.func110 (fun c0 rdb => ?_)
 (repeat' ((conv => whnf); first | refine Ob.auto ?_ | fail))
 exact Le.refl _
theorem jqy (v : Ch) (s : List UInt8) : Con Tryz.prog 114 [.agg v.cells, .rptr [.str s]] (.bool (v.name == s)) := by
 refine zK {} 300 Tryz.func114 (fun c0 rdb => ?_)
 (repeat' ((conv => whnf); first | refine Ob.auto ?_ | fail))
 exact Le.refl _
theorem jqz (l : List Vr) (n : Nat) (hn : n ≤ l.length) (hl : n ≤ 1000000) (s : List UInt8) : Con Tryz.prog 111 [.slc 3 n (encL Vr.cells vr0 l), .fn 110 [.rptr [.str s]]] (iv (Go.St.idx (fun v : Vr => v.name == s) (l.take n))) := by
 have htk : ∀ j : Nat, j < n → (l.take n).getD j vr0 = l.getD j vr0 := fun j hj => by
  rw [zd, List.getElem?_take, if_pos hj, ← zd]
 have hln : (l.take n).length = n := by rw [List.length_take]; omega
 refine zK {} 300 Tryz.func111 (fun c0 rdb => ?_)
 ((conv => whnf); refine qo (fun _ => rfl) 300 1 (fun i : Nat => [(8, iv i)]) (fun _ => []) (fun i => i ≤ n ∧ ∀ j, j < i → ((l.getD j vr0).name == s) = false) (fun i => n - i) (0) (⟨by omega, fun j hj => absurd hj (Nat.not_lt_zero j)⟩) qa qa (fun _ => rfl) (by kernel_rfl) ?_; (conv => whnf))
 intro i hi
 (repeat' ((conv => whnf); first | refine Ob.auto ?_ | refine zC 300 (jqx _ s) ?_ | (apply zB <;> intro hb <;> (try simp [-zd] at hb) <;> try (exfalso; omega))))
 ·refine Le.of_eq (congrArg (AV.int _) ?_)
  exact (qeu _ (l.take n) vr0 i (by omega) (by rw [htk i (by omega)]; exact beq_iff_eq.2 hb) (fun j hj => by rw [htk j (by omega)]; exact hi.2 j hj)).symm
 ·((conv => whnf); refine ⟨i + 1, ⟨by omega, jz hi.2 (beq_eq_false_iff_ne.2 hb)⟩, ⟨qa, qa⟩, ⟨qa, qa⟩, ?_⟩; (first | omega | (dsimp only; omega) | skip))
 ·refine Le.of_eq (congrArg (AV.int _) ?_)
  exact (qev _ (l.take n) vr0 (fun j hj => by rw [htk j (by omega)]; exact hi.2 j (by omega))).symm
theorem jra (l : List Ch) (hl : l.length ≤ 1000000) (s : List UInt8) : Con Tryz.prog 115 [slcL Ch.cells ch0 5 l, .fn 114 [.rptr [.str s]]] (iv (Go.St.idx (fun v : Ch => v.name == s) l)) := by
 refine zK {} 300 Tryz.func115 (fun c0 rdb => ?_)
 ((conv => whnf); refine qo (fun _ => rfl) 300 1 (fun i : Nat => [(8, iv i)]) (fun _ => []) (fun i => i ≤ l.length ∧ ∀ j, j < i → ((l.getD j ch0).name == s) = false) (fun i => l.length - i) (0) (⟨by omega, fun j hj => absurd hj (Nat.not_lt_zero j)⟩) qa qa (fun _ => rfl) (by kernel_rfl) ?_; (conv => whnf))
 intro i hi
 (repeat' ((conv => whnf); first | refine Ob.auto ?_ | refine zC 300 (jqy _ s) ?_ | (apply zB <;> intro hb <;> (try simp [-zd] at hb) <;> try (exfalso; omega))))
 ·refine Le.of_eq (congrArg (AV.int _) ?_)
  exact (qeu (fun v : Ch => v.name == s) l ch0 i (by omega) (beq_iff_eq.2 hb) hi.2).symm
 ·((conv => whnf); refine ⟨i + 1, ⟨by omega, jz hi.2 (beq_eq_false_iff_ne.2 hb)⟩, ⟨qa, qa⟩, ⟨qa, qa⟩, ?_⟩; (first | omega | (dsimp only; omega) | skip))
 ·refine Le.of_eq (congrArg (AV.int _) ?_)
  exact (qev _ l ch0 (fun j hj => hi.2 j (by omega))).symm
theorem jrb (l : List (List UInt8)) (hl : l.length ≤ 1000000) (s : List UInt8) : Con Tryz.prog 112 [strs l, .str s] (iv (Go.St.idx (· == s) l)) := by
 refine zK {} 300 Tryz.func112 (fun c0 rdb => ?_)
 ((conv => whnf); refine qo (fun _ => rfl) 300 1 (fun i : Nat => [(8, iv i)]) (fun _ => []) (fun i => i ≤ l.length ∧ ∀ j, j < i → (l.getD j [] == s) = false) (fun i => l.length - i) (0) (⟨by omega, fun j hj => absurd hj (Nat.not_lt_zero j)⟩) qa qa (fun _ => rfl) (by kernel_rfl) ?_; (conv => whnf))
 intro i hi
 (repeat' ((conv => whnf); first | refine Ob.auto ?_ | (apply zB <;> intro hb <;> (try simp [-zd] at hb) <;> try (exfalso; omega))))
 ·refine Le.of_eq (congrArg (AV.int _) ?_)
  exact (qeu (· == s) l [] i (by omega) (beq_iff_eq.2 hb.symm) hi.2).symm
 ·((conv => whnf); refine ⟨i + 1, ⟨by omega, jz hi.2 (beq_eq_false_iff_ne.2 (Ne.symm hb))⟩, ⟨qa, qa⟩, ⟨qa, qa⟩, ?_⟩; (first | omega | (dsimp only; omega) | skip))
 ·refine Le.of_eq (congrArg (AV.int _) ?_)
  exact (qev _ l [] (fun j hj => hi.2 j (by omega))).symm
def varV (m : Md) (p : Int) (s : Stt) (n : List UInt8) : Int × Bool := if varN m p n < 0 then (0, false) else (s.vars.getD (varN m p n).toNat 0, true)
def lenV (m : Md) (s : Stt) (n : List UInt8) : Int × Bool := if Go.St.idx (fun c : Ch => c.name == n) m.chans < 0 then (0, false) else ((s.chans.getD (Go.St.idx (fun c : Ch => c.name == n) m.chans).toNat []).length, true)
theorem jrc (m : Md) (hm : MOk m) (p : Int) (s : Stt) (hs : SOk m s) (n : List UInt8) : Con Tryz.prog 109 [.str n, .rptr [iv p], .rptr m.cells, .rptr s.cells] (qjy (varV m p s n)) := by
 have hg := hm.glob
 have hsz := hm.sz
 have hvl := hs.vl
 have hcl := hs.cl
 have hvn := qtx hm p n
 by_cases hp : 0 ≤ p ∧ p < m.procs.length
 ·have hq := hm.procs _ (ql m.procs p.toNat pr0 (by omega))
  have hq2 := hm.psz _ (ql m.procs p.toNat pr0 (by omega))
  have hv : varN m p n = _ := if_pos hp
  have hix := qir (· == n) (m.procs.getD p.toNat pr0).names
  have hqv := fun (h : 0 ≤ Go.St.idx (· == n) (m.procs.getD p.toNat pr0).names) => hq.2 _ (ql (m.procs.getD p.toNat pr0).vars (Go.St.idx (· == n) (m.procs.getD p.toNat pr0).names).toNat 0 (by omega))
  refine zK {} 300 Tryz.func109 (fun c0 rdb => ?_)
  (repeat' ((conv => whnf); first | refine zO ?_ | refine Ob.auto ?_ | refine zC 300 (jrb (m.procs.getD p.toNat pr0).names (by omega) n) ?_ | (refine zP 300 ?_) | (apply zB <;> intro hb <;> (try simp [-zd] at hb) <;> try (exfalso; omega))))
  ·have := hqv (by omega)
   rw [if_neg (by omega)] at hv
   refine Le.of_eq ?_
   rw [varV, if_neg (by omega), hv]; rfl
  ·rw [if_pos (by omega)] at hv
   refine Le.of_eq ?_
   rw [varV, if_pos (by omega)]; rfl
 ·have hv : varN m p n = _ := if_neg hp
  refine zK {} 300 Tryz.func109 (fun c0 rdb => ?_)
  (repeat' ((conv => whnf); first | refine Ob.auto ?_ | refine zE 300 (jqz m.vars m.globals.toNat (by omega) (by omega) n) ?_ | (apply zB <;> intro hb <;> (try simp [-zd] at hb) <;> try (exfalso; omega))))
  ·refine Le.of_eq ?_
   rw [varV, if_neg (by omega), hv]; rfl
  ·refine Le.of_eq ?_
   rw [varV, if_pos (by omega)]; rfl
theorem jrd (m : Md) (hm : MOk m) (s : Stt) (hs : SOk m s) (n : List UInt8) : Con Tryz.prog 113 [.str n, .rptr m.cells, .rptr s.cells] (qjy (lenV m s n)) := by
 have hsz := hm.sz
 have hcl := hs.cl
 have hi := qir (fun c : Ch => c.name == n) m.chans
 refine zK {} 300 Tryz.func113 (fun c0 rdb => ?_)
 (repeat' ((conv => whnf); first | refine Ob.auto ?_ | refine zE 300 (jra m.chans (by omega) n) ?_ | (apply zB <;> intro hb <;> (try simp [-zd] at hb) <;> try (exfalso; omega))))
 ·refine Le.of_eq ?_
  rw [lenV, if_neg (by omega)]; rfl
 ·refine Le.of_eq ?_
  rw [lenV, if_pos (by omega)]; rfl
def jdq (m : Md) (p : Int) (s : Stt) : AV := .agg [jq m.tree, .fn 109 [.rptr [iv p], .rptr m.cells, .rptr s.cells], .fn 113 [.rptr m.cells, .rptr s.cells]]
theorem jdr (m : Md) (p : Int) (s : Stt) : Con Tryz.prog 76 [m.av, iv p, s.av] (jdq m p s) := by
 refine zK {} 300 Tryz.func76 (fun c0 rdb => ?_)
 (repeat' ((conv => whnf); first | refine Ob.auto ?_ | fail))
 exact Le.of_eq (by kernel_rfl)
theorem jds (m : Md) (hm : MOk m) (p : Int) (s : Stt) (hs : SOk m s) : ∀ (n : Nat) (k : Int), 0 ≤ k → k < m.tree.length → m.tree.length - k.toNat ≤ n → Con Tryz.prog 77 [jdq m p s, iv k] (qjy (valN m p s n k)) := by
 intro n
 induction n with
 | zero => intro k h0 h1 h2; omega
 | succ n ih =>
  intro k h0 h1 h2
  have hnd := hm.tree k.toNat (by omega)
  have h17 := hnd.num
  have h18 := hnd.word
  have h20 := hnd.un
  have h22 := hnd.bin
  have hsz := hm.sz
  have hvb := qzw hm hs p n
  have hvl := hs.vl
  have hcl := hs.cl
  have hk0 : (m.tree.getD k.toNat nd0).kind = 20 ∨ (m.tree.getD k.toNat nd0).kind = 21 ∨ (m.tree.getD k.toNat nd0).kind = 22 → 0 ≤ (m.tree.getD k.toNat nd0).kids.getD 0 0 ∧ (m.tree.getD k.toNat nd0).kids.getD 0 0 < m.tree.length ∧ m.tree.length - ((m.tree.getD k.toNat nd0).kids.getD 0 0).toNat ≤ n := by omega
  have hk1 : (m.tree.getD k.toNat nd0).kind = 22 → 0 ≤ (m.tree.getD k.toNat nd0).kids.getD 1 0 ∧ (m.tree.getD k.toNat nd0).kids.getD 1 0 < m.tree.length ∧ m.tree.length - ((m.tree.getD k.toNat nd0).kids.getD 1 0).toNat ≤ n := by omega
  have hb0 := hvb ((m.tree.getD k.toNat nd0).kids.getD 0 0)
  have hb1 := hvb ((m.tree.getD k.toNat nd0).kids.getD 1 0)
  refine zK {} 600 Tryz.func77 (fun c0 rdb => ?_)
  (repeat' ((conv => whnf); first | refine zO ?_ | refine Ob.auto ?_ | refine zC 600 (qlu _ _) ?_ | refine zX (jrc m hm p s hs _) ?_ | refine zX (jrd m hm s hs _) ?_ | refine zC 600 (jch _) ?_ | refine zC 600 (jpn _ _ _ (by omega) (by omega)) ?_ | refine zX (ih ((m.tree.getD k.toNat nd0).kids.getD 0 0) (hk0 (by omega)).1 (hk0 (by omega)).2.1 (hk0 (by omega)).2.2) ?_ | refine zX (ih ((m.tree.getD k.toNat nd0).kids.getD 1 0) (hk1 (by omega)).1 (hk1 (by omega)).2.1 (hk1 (by omega)).2.2) ?_ | (refine zP 600 ?_) | (apply zB <;> intro hb <;> (try simp [-zd] at hb) <;> try (exfalso; omega))))
  ·refine Le.of_eq ?_
   rw [valN, if_pos (by assumption)]; rfl
  ·refine Le.of_eq ?_
   rw [valN, if_neg (by assumption), if_pos (by assumption)]; rfl
  ·refine Le.of_eq ?_
   rw [valN, if_neg (by assumption), if_neg (by assumption), if_pos (by assumption)]; rfl
  ·refine Le.of_eq ?_
   rw [valN, if_neg (by assumption), if_neg (by assumption), if_neg (by assumption), if_pos (by assumption)]; rfl
  ·refine Le.of_eq ?_
   rw [qty m p s n k (by assumption), hb]; rfl
  ·refine Le.of_eq ?_
   rw [qty m p s n k (by assumption), hb, Bool.true_and]; rfl
  ·refine Le.of_eq ?_
   rw [qtz m p s n k (by assumption), binF, if_neg (fun h => by rcases hb with hb | hb <;> rw [hb] at h <;> simp at h)]; rfl
  ·refine Le.of_eq ?_
   rw [qtz m p s n k (by assumption), binF, if_pos hb]; rfl
  ·refine Le.of_eq ?_
   rw [valN, if_neg (by assumption), if_neg (by assumption), if_neg (by assumption), if_neg (by assumption), if_neg (by assumption), if_neg (by assumption)]; rfl
theorem qlx {m : Md} {s : Stt} (hm : MOk m) (h : qi m s = true) : SOk m s := by
 obtain ⟨h0, hA, hV, hC⟩ := (ji m s).1 h
 refine ⟨h0.2.1, h0.2.2.1, fun v hv => ?_, fun c hc => ?_⟩
 ·obtain ⟨i, hi, rfl⟩ := List.mem_iff_getElem.1 hv
  have h1 := hV i hi
  have h2 := qtw (s.vars.getD i 0) (m.vars.getD i vr0).width
  unfold qlk at h1
  rw [h1] at h2
  rw [zd, List.getElem?_eq_getElem hi] at h2
  simp only [Option.getD_some] at h2
  omega
 ·obtain ⟨i, hi, rfl⟩ := List.mem_iff_getElem.1 hc
  have h1 := (hC i hi).1
  have h2 := hm.chan _ (ql m.chans i ch0 (by omega))
  unfold qis at h1
  rw [zd, List.getElem?_eq_getElem hi] at h1
  simp only [Option.getD_some] at h1
  omega
def sval (m : Md) (p : Int) (s : Stt) (k : Int) : Int × Bool := if 0 ≤ k ∧ k < m.tree.length ∧ qi m s = true then val m p s k else (0, false)
theorem qwd (m : Md) (hm : MOk m) (p : Int) (s : Stt) (hs : SSz s) (k : Int) : Con Tryz.prog 75 [m.av, iv p, s.av, iv k] (qjy (sval m p s k)) := by
 have hsz := hm.sz
 by_cases hf : 0 ≤ k ∧ k < m.tree.length ∧ qi m s = true
 ·have hso := qlx hm hf.2.2
  refine zK {} 300 Tryz.func75 (fun c0 rdb => ?_)
  (repeat' ((conv => whnf); first | refine Ob.auto ?_ | refine zG 300 (fun hg => qed m s hs) ?_ | refine zC 300 (jdr m p s) ?_ | refine zC 300 (jds m hm p s hso m.tree.length k (by omega) (by omega) (by omega)) ?_ | (apply zB <;> intro hb <;> (try simp [-zd] at hb) <;> try (exfalso; omega))))
  ·exfalso; rcases hb with hb | hb
   ·omega
   ·rw [hf.2.2] at hb; cases hb
  ·refine Le.of_eq ?_
   rw [sval, if_pos hf]; rfl
 ·refine zK {} 300 Tryz.func75 (fun c0 rdb => ?_)
  (repeat' ((conv => whnf); first | refine Ob.auto ?_ | refine zG 300 (fun hg => qed m s hs) ?_ | (apply zB <;> intro hb <;> (try simp [-zd] at hb) <;> try (exfalso; omega))))
  ·refine Le.of_eq ?_
   rw [sval, if_neg hf]; rfl
  ·exact absurd ⟨hb.1.1, hb.1.2, hb.2⟩ hf
theorem jre (m : Md) (hm : MOk m) (s : Stt) (hs : SSz s) : Con Tryz.prog 47 [m.av, s.av] (.bool (m.safe.isEmpty || qi m s && qnf m s)) := by
 have hsz := hm.sz
 have hsf := hm.safe
 by_cases hf : qi m s = true
 ·have hso := qlx hm hf
  refine zK {} 300 Tryz.func47 (fun c0 rdb => ?_)
  (repeat' ((conv => whnf); first | refine Ob.auto ?_ | refine zC 300 (qed m s hs) ?_ | refine zC 300 (jdr m (-1) s) ?_ | (apply zB <;> intro hb <;> (try simp [-zd] at hb) <;> try (exfalso; omega))))
  ·refine Le.of_eq (congrArg AV.bool ?_)
   simp [hb]
  ·rw [hf] at hb; cases hb
  ·rename_i hne
   have hemp : m.safe.isEmpty = false := by simp [hne]
   ((conv => whnf); refine qo (fun _ => rfl) 300 1 (fun i : Nat => [(24, iv i)]) (fun _ => []) (fun i => i ≤ m.safe.length ∧ ∀ j, j < i → qqp m s (m.safe.getD j 0) = true) (fun i => m.safe.length - i) (0) (⟨by omega, fun j hj => absurd hj (Nat.not_lt_zero j)⟩) qa qa (fun _ => rfl) (by kernel_rfl) ?_; (conv => whnf))
   intro i hi
   have hki : i < m.safe.length → _ := fun h => hsf _ (ql m.safe i 0 h)
   (repeat' ((conv => whnf); first | refine Ob.auto ?_ | refine zC 300 (jds m hm (-1) s hso m.tree.length (m.safe.getD i 0) (hki (by omega)).1 (hki (by omega)).2 (by omega)) ?_ | (apply zB <;> intro hb <;> (try simp [-zd] at hb) <;> try (exfalso; omega))))
   ·refine Le.of_eq (congrArg AV.bool ?_)
    rw [hf, hemp, Bool.false_or, Bool.true_and]
    refine (qqr 0 (j := i) (by omega) ?_).symm
    simp only [qqp, val]
    rcases hb with hb | hb <;> simp [-zd, hb]
   ·((conv => whnf); refine ⟨i + 1, ⟨by omega, jz hi.2 (by simp only [qqp, val]; simp [-zd, hb])⟩, ⟨qa, qa⟩, ⟨qa, qa⟩, ?_⟩; (first | omega | (dsimp only; omega) | skip))
   ·refine Le.of_eq (congrArg AV.bool ?_)
    rw [hf, hemp, Bool.false_or, Bool.true_and]
    exact (qqq 0 (fun j hj => hi.2 j (by omega))).symm
 ·refine zK {} 300 Tryz.func47 (fun c0 rdb => ?_)
  (repeat' ((conv => whnf); first | refine Ob.auto ?_ | refine zC 300 (qed m s hs) ?_ | (apply zB <;> intro hb <;> (try simp [-zd] at hb) <;> try (exfalso; omega))))
  ·refine Le.of_eq (congrArg AV.bool ?_)
   simp [hb]
  ·rename_i hne
   refine Le.of_eq (congrArg AV.bool ?_)
   simp [hb, hne]
  ·exact absurd hb hf
set_option maxHeartbeats 4000000
theorem qha {m : Md} {s : Stt} {p : Nat} {e : Ed} (h1 : s.at_.getD p 0 = e.frm) (h2 : e.expr < 0 ∨ (val m p s e.expr).2 = true) : canB m s p e =
  (if e.act = 2 then decide (qlen s e.chn < room m e.chn) else if e.act = 3 then decide (0 < qlen s e.chn) else if e.act = 4 then !((if e.expr < 0 then 0 else (val m p s e.expr).1) == 0) else if e.act = 5 then (if e.expr < 0 then 0 else (val m p s e.expr).1) == 0 else true) := by
 have h3 : (decide (e.expr < 0) || (val m p s e.expr).2) = true := by
  rcases h2 with h2 | h2
  ·rw [decide_eq_true h2]; rfl
  ·rw [h2, Bool.or_true]
 unfold canB
 rw [beq_iff_eq.2 h1, h3]; rfl
theorem jdt (m : Md) (hm : MOk m) (s : Stt) (hf : qi m s = true) (p : Nat) (hp : p < m.procs.length) (e : Ed) {pl : Int} (he : EdOk m.tree.length m.vars.length m.chans.length pl e) :
  Con Tryz.prog 20 [m.av, s.av, iv p, .agg e.cells] (.bool (canB m s p e)) := by
 have hso := qlx hm hf
 have hat : s.at_.length = m.procs.length := ((ji m s).1 hf).1.1
 have hcl := hso.cl
 have hch := he.chn
 have hac := he.act
 have hex : e.expr < m.tree.length := by
  have h1 := he.ex
  have h2 := he.nex
  by_cases h : e.act = 1 ∨ e.act = 2 ∨ e.act = 4 ∨ e.act = 5
  ·exact (h1 h).2
  ·have := h2 (by omega); omega
 refine zK {} 300 Tryz.func20 (fun c0 rdb => ?_)
 (repeat' ((conv => whnf); first | refine zO ?_ | refine Ob.auto ?_ | refine zC 300 (qwc m hm p s hso m.tree.length e.expr (by omega) (by omega) (Nat.sub_le _ _)) ?_ | refine zD 300 ?_ | (apply zB <;> intro hb <;> (try simp [-zd] at hb) <;> try (exfalso; omega))))
 all_goals refine Le.of_eq (congrArg AV.bool ?_)
 ·unfold canB val
  rcases hb with hb | hb
  ·rw [beq_eq_false_iff_ne.2 hb]; try rfl
  ·rw [hb, Bool.or_false, decide_eq_false (by omega), Bool.and_false]; try rfl
 ·have hA : s.at_.getD p 0 = e.frm ∧ (valN m p s m.tree.length e.expr).2 = true := by assumption
  rw [qha hA.1 (.inr hA.2), if_pos (by assumption)]; try rfl
 ·have hA : s.at_.getD p 0 = e.frm ∧ (valN m p s m.tree.length e.expr).2 = true := by assumption
  rw [qha hA.1 (.inr hA.2), if_neg (by assumption), if_pos (by assumption)]; try rfl
 ·have hA : s.at_.getD p 0 = e.frm ∧ (valN m p s m.tree.length e.expr).2 = true := by assumption
  rw [qha hA.1 (.inr hA.2), if_neg (by assumption), if_neg (by assumption), if_pos (by assumption), if_neg (by omega)]; try rfl
 ·have hA : s.at_.getD p 0 = e.frm ∧ (valN m p s m.tree.length e.expr).2 = true := by assumption
  rw [qha hA.1 (.inr hA.2), if_neg (by assumption), if_neg (by assumption), if_neg (by assumption), if_pos (by assumption), if_neg (by omega)]; try rfl
 ·have hA : s.at_.getD p 0 = e.frm ∧ (valN m p s m.tree.length e.expr).2 = true := by assumption
  rw [qha hA.1 (.inr hA.2), if_neg (by assumption), if_neg (by assumption), if_neg (by assumption), if_neg (by assumption)]
 ·unfold canB
  rw [beq_eq_false_iff_ne.2 hb]; try rfl
 ·have hA : s.at_.getD p 0 = e.frm := by assumption
  rw [qha hA (.inl (by assumption)), if_pos (by assumption)]; try rfl
 ·have hA : s.at_.getD p 0 = e.frm := by assumption
  rw [qha hA (.inl (by assumption)), if_neg (by assumption), if_pos (by assumption)]; try rfl
 ·have hA : s.at_.getD p 0 = e.frm := by assumption
  rw [qha hA (.inl (by assumption)), if_neg (by assumption), if_neg (by assumption), if_pos (by assumption), if_pos (by assumption)]; try rfl
 ·have hA : s.at_.getD p 0 = e.frm := by assumption
  rw [qha hA (.inl (by assumption)), if_neg (by assumption), if_neg (by assumption), if_neg (by assumption), if_pos (by assumption), if_pos (by assumption)]; try rfl
 ·have hA : s.at_.getD p 0 = e.frm := by assumption
  rw [qha hA (.inl (by assumption)), if_neg (by assumption), if_neg (by assumption), if_neg (by assumption), if_neg (by assumption)]
theorem qol (m : Md) (hM : ModOk m) (s : Stt) (hf : qi m s = true) (p : Nat) (hp : p < m.procs.length) :
  Con Tryz.prog 55 [m.av, s.av, iv p] (.bool (qoh m s p)) := by
 have hn := (hM.psz _ (ql m.procs p pr0 hp)).1
 refine zK {} 300 Tryz.func55 (fun c0 rdb => ?_)
 ((conv => whnf); refine qo (fun _ => rfl) 300 1 (fun i : Nat => [(7, iv i), (6, .bool false)]) (fun _ => []) (fun i => i ≤ (edgesOf m p).length ∧ ∀ j, j < i → canB m s p ((edgesOf m p).getD j ed0) = false) (fun i => (edgesOf m p).length - i) (0) (⟨Nat.zero_le _, fun j hj => absurd hj (Nat.not_lt_zero j)⟩) qa qa (fun _ => rfl) (by kernel_rfl) ?_; (conv => whnf))
 intro i hi
 (repeat' ((conv => whnf); first | refine zA ?_ | refine Ob.auto ?_ | (refine CallY.con (jdt m hM.ok s hf p hp ((edgesOf m p).getD i ed0) (edOk hM hp (by exact hb))) (by rfl) leA ?_) | (refine zQ 300 ?_) | (apply zB <;> intro hb <;> (try simp [-zd] at hb) <;> try (exfalso; omega))))
 ·have hil : i < (edgesOf m p).length := by assumption
  exact Le.of_eq (congrArg AV.bool (List.any_eq_true.2 ⟨_, ql _ _ _ hil, by assumption⟩).symm)
 ·have hil : i < (edgesOf m p).length := by assumption
  ((conv => whnf); refine ⟨i + 1, ⟨hil, jz hi.2 (by assumption)⟩, ⟨qa, qa⟩, ⟨qa, qa⟩, ?_⟩; (first | omega | (dsimp only; omega) | skip))
 ·have hil : (edgesOf m p).length ≤ i := by assumption
  refine Le.of_eq (congrArg AV.bool ?_)
  unfold qoh
  rw [Eq.comm, List.any_eq_false]
  intro e hme
  obtain ⟨j, hj, rfl⟩ := List.mem_iff_getElem.1 hme
  have := hi.2 j (by omega)
  rw [zd, List.getElem?_eq_getElem hj] at this
  simp only [Option.getD_some] at this
  rw [this]; decide
end Go.Proofs.YtdoaagphhjggbaaGreat
end
