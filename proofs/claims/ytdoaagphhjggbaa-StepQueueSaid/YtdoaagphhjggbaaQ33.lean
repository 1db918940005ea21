/- Some texts of the library, one behind the other. -/
import Derived.Test.YtdoaagphhjggbaaQ32
import Derived.Test.YtdoaagphhjggbaaQ2
section
namespace Go.Proofs.Ytdoaagphhjggbaa
open List renaming getD_eq_getElem?_getD → zd
open Go Go.Sx Go.RowKit Go.St
set_option maxRecDepth 100000
set_option maxHeartbeats 2000000
theorem jnl (v : Vr) (s : List UInt8) : Con Try.prog 55 [.agg v.cells, .rptr [.str s]] (.bool (v.name == s)) := by
 refine zK {} 300 Try.func55 (fun c0 rdb => ?_)
 (repeat' ((conv => whnf); first | refine Ob.auto ?_ | fail))
 exact Le.refl _
theorem jnm (v : Ch) (s : List UInt8) : Con Try.prog 59 [.agg v.cells, .rptr [.str s]] (.bool (v.name == s)) := by
 refine zK {} 300 Try.func59 (fun c0 rdb => ?_)
 (repeat' ((conv => whnf); first | refine Ob.auto ?_ | fail))
 exact Le.refl _
theorem jnn (l : List Vr) (n : Nat) (hn : n ≤ l.length) (hl : n ≤ 1000000) (s : List UInt8) : Con Try.prog 56 [.slc 3 n (encL Vr.cells vr0 l), .fn 55 [.rptr [.str s]]] (iv (Go.St.idx (fun v : Vr => v.name == s) (l.take n))) := by
 have htk : ∀ j : Nat, j < n → (l.take n).getD j vr0 = l.getD j vr0 := fun j hj => by
  rw [zd, List.getElem?_take, if_pos hj, ← zd]
 have hln : (l.take n).length = n := by rw [List.length_take]; omega
 refine zK {} 300 Try.func56 (fun c0 rdb => ?_)
 ((conv => whnf); refine qx (fun _ => rfl) 300 1 (fun i : Nat => [(8, iv i)]) (fun _ => []) (fun i => i ≤ n ∧ ∀ j, j < i → ((l.getD j vr0).name == s) = false) (fun i => n - i) (0) (⟨by omega, fun j hj => absurd hj (Nat.not_lt_zero j)⟩) qa qa (fun _ => rfl) (by kernel_rfl) ?_; (conv => whnf))
 intro i hi
 (repeat' ((conv => whnf); first | refine Ob.auto ?_ | refine zC 300 (jnl _ s) ?_ | (apply zB <;> intro hb <;> (try simp [-zd] at hb) <;> try (exfalso; omega))))
 ·refine Le.of_eq (congrArg (AV.int _) ?_)
  exact (qgh _ (l.take n) vr0 i (by omega) (by rw [htk i (by omega)]; exact beq_iff_eq.2 hb) (fun j hj => by rw [htk j (by omega)]; exact hi.2 j hj)).symm
 ·((conv => whnf); refine ⟨i + 1, ⟨by omega, qbo hi.2 (beq_eq_false_iff_ne.2 hb)⟩, ⟨qa, qa⟩, ⟨qa, qa⟩, ?_⟩; (first | omega | (dsimp only; omega) | skip))
 ·refine Le.of_eq (congrArg (AV.int _) ?_)
  exact (qgi _ (l.take n) vr0 (fun j hj => by rw [htk j (by omega)]; exact hi.2 j (by omega))).symm
theorem jno (l : List Ch) (hl : l.length ≤ 1000000) (s : List UInt8) : Con Try.prog 60 [slcL Ch.cells ch0 5 l, .fn 59 [.rptr [.str s]]] (iv (Go.St.idx (fun v : Ch => v.name == s) l)) := by
 refine zK {} 300 Try.func60 (fun c0 rdb => ?_)
 ((conv => whnf); refine qx (fun _ => rfl) 300 1 (fun i : Nat => [(8, iv i)]) (fun _ => []) (fun i => i ≤ l.length ∧ ∀ j, j < i → ((l.getD j ch0).name == s) = false) (fun i => l.length - i) (0) (⟨by omega, fun j hj => absurd hj (Nat.not_lt_zero j)⟩) qa qa (fun _ => rfl) (by kernel_rfl) ?_; (conv => whnf))
 intro i hi
 (repeat' ((conv => whnf); first | refine Ob.auto ?_ | refine zC 300 (jnm _ s) ?_ | (apply zB <;> intro hb <;> (try simp [-zd] at hb) <;> try (exfalso; omega))))
 ·refine Le.of_eq (congrArg (AV.int _) ?_)
  exact (qgh (fun v : Ch => v.name == s) l ch0 i (by omega) (beq_iff_eq.2 hb) hi.2).symm
 ·((conv => whnf); refine ⟨i + 1, ⟨by omega, qbo hi.2 (beq_eq_false_iff_ne.2 hb)⟩, ⟨qa, qa⟩, ⟨qa, qa⟩, ?_⟩; (first | omega | (dsimp only; omega) | skip))
 ·refine Le.of_eq (congrArg (AV.int _) ?_)
  exact (qgi _ l ch0 (fun j hj => hi.2 j (by omega))).symm
theorem jnp (l : List (List UInt8)) (hl : l.length ≤ 1000000) (s : List UInt8) : Con Try.prog 57 [strs l, .str s] (iv (Go.St.idx (· == s) l)) := by
 refine zK {} 300 Try.func57 (fun c0 rdb => ?_)
 ((conv => whnf); refine qx (fun _ => rfl) 300 1 (fun i : Nat => [(8, iv i)]) (fun _ => []) (fun i => i ≤ l.length ∧ ∀ j, j < i → (l.getD j [] == s) = false) (fun i => l.length - i) (0) (⟨by omega, fun j hj => absurd hj (Nat.not_lt_zero j)⟩) qa qa (fun _ => rfl) (by kernel_rfl) ?_; (conv => whnf))
 intro i hi
 (repeat' ((conv => whnf); first | refine Ob.auto ?_ | (apply zB <;> intro hb <;> (try simp [-zd] at hb) <;> try (exfalso; omega))))
 ·refine Le.of_eq (congrArg (AV.int _) ?_)
  exact (qgh (· == s) l [] i (by omega) (beq_iff_eq.2 hb.symm) hi.2).symm
 ·((conv => whnf); refine ⟨i + 1, ⟨by omega, qbo hi.2 (beq_eq_false_iff_ne.2 (Ne.symm hb))⟩, ⟨qa, qa⟩, ⟨qa, qa⟩, ?_⟩; (first | omega | (dsimp only; omega) | skip))
 ·refine Le.of_eq (congrArg (AV.int _) ?_)
  exact (qgi _ l [] (fun j hj => hi.2 j (by omega))).symm
def varV (m : Md) (p : Int) (s : Stt) (n : List UInt8) : Int × Bool := if varN m p n < 0 then (0, false) else (s.vars.getD (varN m p n).toNat 0, true)
def lenV (m : Md) (s : Stt) (n : List UInt8) : Int × Bool := if Go.St.idx (fun c : Ch => c.name == n) m.chans < 0 then (0, false) else ((s.chans.getD (Go.St.idx (fun c : Ch => c.name == n) m.chans).toNat []).length, true)
theorem jnq (m : Md) (hm : MOk m) (p : Int) (s : Stt) (hs : SOk m s) (n : List UInt8) : Con Try.prog 54 [.str n, .rptr [iv p], .rptr m.cells, .rptr s.cells] (qkd (varV m p s n)) := by
 have hg := hm.glob
 have hsz := hm.sz
 have hvl := hs.vl
 have hcl := hs.cl
 have hvn := qyc hm p n
 by_cases hp : 0 ≤ p ∧ p < m.procs.length
 ·have hq := hm.procs _ (qo m.procs p.toNat pr0 (by omega))
  have hq2 := hm.psz _ (qo m.procs p.toNat pr0 (by omega))
  have hv : varN m p n = _ := if_pos hp
  have hix := qhm (· == n) (m.procs.getD p.toNat pr0).names
  have hqv := fun (h : 0 ≤ Go.St.idx (· == n) (m.procs.getD p.toNat pr0).names) => hq.2 _ (qo (m.procs.getD p.toNat pr0).vars (Go.St.idx (· == n) (m.procs.getD p.toNat pr0).names).toNat 0 (by omega))
  refine zK {} 300 Try.func54 (fun c0 rdb => ?_)
  (repeat' ((conv => whnf); first | refine zO ?_ | refine Ob.auto ?_ | refine zC 300 (jnp (m.procs.getD p.toNat pr0).names (by omega) n) ?_ | (refine zP 300 ?_) | (apply zB <;> intro hb <;> (try simp [-zd] at hb) <;> try (exfalso; omega))))
  ·have := hqv (by omega)
   rw [if_neg (by omega)] at hv
   refine Le.of_eq ?_
   rw [varV, if_neg (by omega), hv]; rfl
  ·rw [if_pos (by omega)] at hv
   refine Le.of_eq ?_
   rw [varV, if_pos (by omega)]; rfl
 ·have hv : varN m p n = _ := if_neg hp
  refine zK {} 300 Try.func54 (fun c0 rdb => ?_)
  (repeat' ((conv => whnf); first | refine Ob.auto ?_ | refine zE 300 (jnn m.vars m.globals.toNat (by omega) (by omega) n) ?_ | (apply zB <;> intro hb <;> (try simp [-zd] at hb) <;> try (exfalso; omega))))
  ·refine Le.of_eq ?_
   rw [varV, if_neg (by omega), hv]; rfl
  ·refine Le.of_eq ?_
   rw [varV, if_pos (by omega)]; rfl
theorem jnr (m : Md) (hm : MOk m) (s : Stt) (hs : SOk m s) (n : List UInt8) : Con Try.prog 58 [.str n, .rptr m.cells, .rptr s.cells] (qkd (lenV m s n)) := by
 have hsz := hm.sz
 have hcl := hs.cl
 have hi := qhm (fun c : Ch => c.name == n) m.chans
 refine zK {} 300 Try.func58 (fun c0 rdb => ?_)
 (repeat' ((conv => whnf); first | refine Ob.auto ?_ | refine zE 300 (jno m.chans (by omega) n) ?_ | (apply zB <;> intro hb <;> (try simp [-zd] at hb) <;> try (exfalso; omega))))
 ·refine Le.of_eq ?_
  rw [lenV, if_neg (by omega)]; rfl
 ·refine Le.of_eq ?_
  rw [lenV, if_pos (by omega)]; rfl
def jbn (m : Md) (p : Int) (s : Stt) : AV := .agg [qat m.tree, .fn 54 [.rptr [iv p], .rptr m.cells, .rptr s.cells], .fn 58 [.rptr m.cells, .rptr s.cells]]
theorem jbo (m : Md) (p : Int) (s : Stt) : Con Try.prog 32 [m.av, iv p, s.av] (jbn m p s) := by
 refine zK {} 300 Try.func32 (fun c0 rdb => ?_)
 (repeat' ((conv => whnf); first | refine Ob.auto ?_ | fail))
 exact Le.of_eq (by kernel_rfl)
theorem jbp (m : Md) (hm : MOk m) (p : Int) (s : Stt) (hs : SOk m s) : ∀ (n : Nat) (k : Int), 0 ≤ k → k < m.tree.length → m.tree.length - k.toNat ≤ n → Con Try.prog 33 [jbn m p s, iv k] (qkd (valN m p s n k)) := by
 intro n
 induction n with
 | zero => intro k h0 h1 h2; omega
 | succ n ih =>
  intro k h0 h1 h2
  have hnd := hm.tree k.toNat (by omega)
  have h17 := hnd.num
  have h18 := hnd.word
  have h20 := hnd.un
  have h22 := hnd.bin
  have hsz := hm.sz
  have hvb := jiz hm hs p n
  have hvl := hs.vl
  have hcl := hs.cl
  have hk0 : (m.tree.getD k.toNat nd0).kind = 20 ∨ (m.tree.getD k.toNat nd0).kind = 21 ∨ (m.tree.getD k.toNat nd0).kind = 22 → 0 ≤ (m.tree.getD k.toNat nd0).kids.getD 0 0 ∧ (m.tree.getD k.toNat nd0).kids.getD 0 0 < m.tree.length ∧ m.tree.length - ((m.tree.getD k.toNat nd0).kids.getD 0 0).toNat ≤ n := by omega
  have hk1 : (m.tree.getD k.toNat nd0).kind = 22 → 0 ≤ (m.tree.getD k.toNat nd0).kids.getD 1 0 ∧ (m.tree.getD k.toNat nd0).kids.getD 1 0 < m.tree.length ∧ m.tree.length - ((m.tree.getD k.toNat nd0).kids.getD 1 0).toNat ≤ n := by omega
  have hb0 := hvb ((m.tree.getD k.toNat nd0).kids.getD 0 0)
  have hb1 := hvb ((m.tree.getD k.toNat nd0).kids.getD 1 0)
  refine zK {} 600 Try.func33 (fun c0 rdb => ?_)
  (repeat' ((conv => whnf); first | refine zO ?_ | refine Ob.auto ?_ | refine zC 600 (qjb _ _) ?_ | refine zX (jnq m hm p s hs _) ?_ | refine zX (jnr m hm s hs _) ?_ | refine zC 600 (jaj _) ?_ | refine zC 600 (jmc _ _ _ (by omega) (by omega)) ?_ | refine zX (ih ((m.tree.getD k.toNat nd0).kids.getD 0 0) (hk0 (by omega)).1 (hk0 (by omega)).2.1 (hk0 (by omega)).2.2) ?_ | refine zX (ih ((m.tree.getD k.toNat nd0).kids.getD 1 0) (hk1 (by omega)).1 (hk1 (by omega)).2.1 (hk1 (by omega)).2.2) ?_ | (refine zP 600 ?_) | (apply zB <;> intro hb <;> (try simp [-zd] at hb) <;> try (exfalso; omega))))
  ·refine Le.of_eq ?_
   rw [valN, if_pos (by assumption)]; rfl
  ·refine Le.of_eq ?_
   rw [valN, if_neg (by assumption), if_pos (by assumption)]; rfl
  ·refine Le.of_eq ?_
   rw [valN, if_neg (by assumption), if_neg (by assumption), if_pos (by assumption)]; rfl
  ·refine Le.of_eq ?_
   rw [valN, if_neg (by assumption), if_neg (by assumption), if_neg (by assumption), if_pos (by assumption)]; rfl
  ·refine Le.of_eq ?_
   rw [qyd m p s n k (by assumption), hb]; rfl
  ·refine Le.of_eq ?_
   rw [qyd m p s n k (by assumption), hb, Bool.true_and]; rfl
  ·refine Le.of_eq ?_
   rw [qye m p s n k (by assumption), binF, if_neg (fun h => by rcases hb with hb | hb <;> rw [hb] at h <;> simp at h)]; rfl
  ·refine Le.of_eq ?_
   rw [qye m p s n k (by assumption), binF, if_pos hb]; rfl
  ·refine Le.of_eq ?_
   rw [valN, if_neg (by assumption), if_neg (by assumption), if_neg (by assumption), if_neg (by assumption), if_neg (by assumption), if_neg (by assumption)]; rfl
theorem que {m : Md} {s : Stt} (hm : MOk m) (h : qq m s = true) : SOk m s := by
 obtain ⟨h0, hA, hV, hC⟩ := (qaf m s).1 h
 refine ⟨h0.2.1, h0.2.2.1, fun v hv => ?_, fun c hc => ?_⟩
 ·obtain ⟨i, hi, rfl⟩ := List.mem_iff_getElem.1 hv
  have h1 := hV i hi
  have h2 := qsi (s.vars.getD i 0) (m.vars.getD i vr0).width
  unfold qma at h1
  rw [h1] at h2
  rw [zd, List.getElem?_eq_getElem hi] at h2
  simp only [Option.getD_some] at h2
  omega
 ·obtain ⟨i, hi, rfl⟩ := List.mem_iff_getElem.1 hc
  have h1 := (hC i hi).1
  have h2 := hm.chan _ (qo m.chans i ch0 (by omega))
  unfold qir at h1
  rw [zd, List.getElem?_eq_getElem hi] at h1
  simp only [Option.getD_some] at h1
  omega
def sval (m : Md) (p : Int) (s : Stt) (k : Int) : Int × Bool := if 0 ≤ k ∧ k < m.tree.length ∧ qq m s = true then val m p s k else (0, false)
theorem qpu (m : Md) (hm : MOk m) (p : Int) (s : Stt) (hs : SSz s) (k : Int) : Con Try.prog 12 [m.av, iv p, s.av, iv k] (qkd (sval m p s k)) := by
 have hsz := hm.sz
 by_cases hf : 0 ≤ k ∧ k < m.tree.length ∧ qq m s = true
 ·have hso := que hm hf.2.2
  refine zK {} 300 Try.func12 (fun c0 rdb => ?_)
  (repeat' ((conv => whnf); first | refine Ob.auto ?_ | refine zG 300 (fun hg => qcz m s hs) ?_ | refine zC 300 (jbo m p s) ?_ | refine zC 300 (jbp m hm p s hso m.tree.length k (by omega) (by omega) (by omega)) ?_ | (apply zB <;> intro hb <;> (try simp [-zd] at hb) <;> try (exfalso; omega))))
  ·exfalso; rcases hb with hb | hb
   ·omega
   ·rw [hf.2.2] at hb; cases hb
  ·refine Le.of_eq ?_
   rw [sval, if_pos hf]; rfl
 ·refine zK {} 300 Try.func12 (fun c0 rdb => ?_)
  (repeat' ((conv => whnf); first | refine Ob.auto ?_ | refine zG 300 (fun hg => qcz m s hs) ?_ | (apply zB <;> intro hb <;> (try simp [-zd] at hb) <;> try (exfalso; omega))))
  ·refine Le.of_eq ?_
   rw [sval, if_neg hf]; rfl
  ·exact absurd ⟨hb.1.1, hb.1.2, hb.2⟩ hf
theorem jns (m : Md) (hm : MOk m) (s : Stt) (hs : SSz s) : Con Try.prog 13 [m.av, s.av] (.bool (m.safe.isEmpty || qq m s && qlx m s)) := by
 have hsz := hm.sz
 have hsf := hm.safe
 by_cases hf : qq m s = true
 ·have hso := que hm hf
  refine zK {} 300 Try.func13 (fun c0 rdb => ?_)
  (repeat' ((conv => whnf); first | refine Ob.auto ?_ | refine zC 300 (qcz m s hs) ?_ | refine zC 300 (jbo m (-1) s) ?_ | (apply zB <;> intro hb <;> (try simp [-zd] at hb) <;> try (exfalso; omega))))
  ·refine Le.of_eq (congrArg AV.bool ?_)
   simp [hb]
  ·rw [hf] at hb; cases hb
  ·rename_i hne
   have hemp : m.safe.isEmpty = false := by simp [hne]
   ((conv => whnf); refine qx (fun _ => rfl) 300 1 (fun i : Nat => [(24, iv i)]) (fun _ => []) (fun i => i ≤ m.safe.length ∧ ∀ j, j < i → qox m s (m.safe.getD j 0) = true) (fun i => m.safe.length - i) (0) (⟨by omega, fun j hj => absurd hj (Nat.not_lt_zero j)⟩) qa qa (fun _ => rfl) (by kernel_rfl) ?_; (conv => whnf))
   intro i hi
   have hki : i < m.safe.length → _ := fun h => hsf _ (qo m.safe i 0 h)
   (repeat' ((conv => whnf); first | refine Ob.auto ?_ | refine zC 300 (jbp m hm (-1) s hso m.tree.length (m.safe.getD i 0) (hki (by omega)).1 (hki (by omega)).2 (by omega)) ?_ | (apply zB <;> intro hb <;> (try simp [-zd] at hb) <;> try (exfalso; omega))))
   ·refine Le.of_eq (congrArg AV.bool ?_)
    rw [hf, hemp, Bool.false_or, Bool.true_and]
    refine (jjb 0 (j := i) (by omega) ?_).symm
    simp only [qox, val]
    rcases hb with hb | hb <;> simp [-zd, hb]
   ·((conv => whnf); refine ⟨i + 1, ⟨by omega, qbo hi.2 (by simp only [qox, val]; simp [-zd, hb])⟩, ⟨qa, qa⟩, ⟨qa, qa⟩, ?_⟩; (first | omega | (dsimp only; omega) | skip))
   ·refine Le.of_eq (congrArg AV.bool ?_)
    rw [hf, hemp, Bool.false_or, Bool.true_and]
    exact (jja 0 (fun j hj => hi.2 j (by omega))).symm
 ·refine zK {} 300 Try.func13 (fun c0 rdb => ?_)
  (repeat' ((conv => whnf); first | refine Ob.auto ?_ | refine zC 300 (qcz m s hs) ?_ | (apply zB <;> intro hb <;> (try simp [-zd] at hb) <;> try (exfalso; omega))))
  ·refine Le.of_eq (congrArg AV.bool ?_)
   simp [hb]
  ·rename_i hne
   refine Le.of_eq (congrArg AV.bool ?_)
   simp [hb, hne]
  ·exact absurd hb hf
end Go.Proofs.Ytdoaagphhjggbaa
end
