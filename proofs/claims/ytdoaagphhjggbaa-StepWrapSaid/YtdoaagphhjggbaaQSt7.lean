/- Contracts: what the program's expressions see of a state. -/
import Derived.Test.YtdoaagphhjggbaaQ33
import Derived.Test.YtdoaagphhjggbaaQ2
namespace Go.Proofs.Ytdoaagphhjggbaa
open Go Go.Sx Go.RowKit Go.St
set_option maxRecDepth 100000
set_option maxHeartbeats 2000000

theorem qmb (v : Vr) (s : List UInt8) : Con Try.prog 55 [.agg v.cells, .rptr [.str s]] (.bool (v.name == s)) := by
 refine qi (T := tab Try.prog) (C := {}) 300 (fun _ => rfl) Try.func55 rfl (by kernel_rfl) (by kernel_rfl) (fun c0 rdb => ?_)
 (repeat' ((conv => whnf); first | refine zO ?_ | refine Ob.auto ?_ | (refine qw (fun _ => rfl) (by kernel_rfl) 300 ?_) | (apply zB <;> intro hb <;> (try simp [-List.getD_eq_getElem?_getD] at hb) <;> try (exfalso; omega)) | refine Ob.intro ?_ ?_))
 exact Le.refl _

theorem qmc (v : Ch) (s : List UInt8) : Con Try.prog 59 [.agg v.cells, .rptr [.str s]] (.bool (v.name == s)) := by
 refine qi (T := tab Try.prog) (C := {}) 300 (fun _ => rfl) Try.func59 rfl (by kernel_rfl) (by kernel_rfl) (fun c0 rdb => ?_)
 (repeat' ((conv => whnf); first | refine zO ?_ | refine Ob.auto ?_ | (refine qw (fun _ => rfl) (by kernel_rfl) 300 ?_) | (apply zB <;> intro hb <;> (try simp [-List.getD_eq_getElem?_getD] at hb) <;> try (exfalso; omega)) | refine Ob.intro ?_ ?_))
 exact Le.refl _

theorem qmd (l : List Vr) (n : Nat) (hn : n ≤ l.length) (hl : n ≤ 1000000) (s : List UInt8) : Con Try.prog 56 [.slc 3 n (encL Vr.cells Vr.none l), .fn 55 [.rptr [.str s]]] (iv (Go.St.idx (fun v : Vr => v.name == s) (l.take n))) := by
 have htk : ∀ j : Nat, j < n → (l.take n).getD j Vr.none = l.getD j Vr.none := fun j hj => by
  rw [List.getD_eq_getElem?_getD, List.getElem?_take, if_pos hj, ← List.getD_eq_getElem?_getD]
 have hln : (l.take n).length = n := by rw [List.length_take]; omega
 refine qi (T := tab Try.prog) (C := {}) 300 (fun _ => rfl) Try.func56 rfl (by kernel_rfl) (by kernel_rfl) (fun c0 rdb => ?_)
 (repeat' ((conv => whnf); first | refine zO ?_ | refine Ob.auto ?_ | (refine qw (fun _ => rfl) (by kernel_rfl) 300 ?_) | (apply zB <;> intro hb <;> (try simp [-List.getD_eq_getElem?_getD] at hb) <;> try (exfalso; omega)) | refine Ob.intro ?_ ?_))
 ((conv => whnf); refine jf (fun _ => rfl) 300 1 (fun i : Nat => [(8, iv i)]) (fun _ => []) (fun i => i ≤ n ∧ ∀ j, j < i → ((l.getD j Vr.none).name == s) = false) (fun i => n - i) (0) (⟨by omega, fun j hj => absurd hj (Nat.not_lt_zero j)⟩) qa qa (fun _ => rfl) (by kernel_rfl) ?_; (conv => whnf))
 intro i hi
 (repeat' ((conv => whnf); first | refine zO ?_ | refine Ob.auto ?_ | refine zC 300 (qmb _ s) ?_ | refine zG 300 (fun hg => qmb _ s) ?_ | refine zX (qmb _ s) ?_ | refine zY (fun hg => qmb _ s) ?_ | refine zE 300 (qmb _ s) ?_ | refine zF 300 (fun hg => qmb _ s) ?_ | (refine qw (fun _ => rfl) (by kernel_rfl) 300 ?_) | (apply zB <;> intro hb <;> (try simp [-List.getD_eq_getElem?_getD] at hb) <;> try (exfalso; omega)) | refine Ob.intro ?_ ?_))
 ·refine Le.of_eq (congrArg (AV.int _) ?_)
  exact (qhd _ (l.take n) Vr.none i (by omega) (by rw [htk i (by omega)]; exact beq_iff_eq.2 hb) (fun j hj => by rw [htk j (by omega)]; exact hi.2 j hj)).symm
 ·((conv => whnf); refine ⟨i + 1, ⟨by omega, qcb hi.2 (beq_eq_false_iff_ne.2 hb)⟩, ⟨qa, qa⟩, ⟨qa, qa⟩, ?_⟩; (first | omega | (dsimp only; omega) | skip))
 ·refine Le.of_eq (congrArg (AV.int _) ?_)
  exact (qhe _ (l.take n) Vr.none (fun j hj => by rw [htk j (by omega)]; exact hi.2 j (by omega))).symm

theorem qme (l : List Ch) (hl : l.length ≤ 1000000) (s : List UInt8) : Con Try.prog 60 [slcL Ch.cells Ch.none 5 l, .fn 59 [.rptr [.str s]]] (iv (Go.St.idx (fun v : Ch => v.name == s) l)) := by
 refine qi (T := tab Try.prog) (C := {}) 300 (fun _ => rfl) Try.func60 rfl (by kernel_rfl) (by kernel_rfl) (fun c0 rdb => ?_)
 (repeat' ((conv => whnf); first | refine zO ?_ | refine Ob.auto ?_ | (refine qw (fun _ => rfl) (by kernel_rfl) 300 ?_) | (apply zB <;> intro hb <;> (try simp [-List.getD_eq_getElem?_getD] at hb) <;> try (exfalso; omega)) | refine Ob.intro ?_ ?_))
 ((conv => whnf); refine jf (fun _ => rfl) 300 1 (fun i : Nat => [(8, iv i)]) (fun _ => []) (fun i => i ≤ l.length ∧ ∀ j, j < i → ((l.getD j Ch.none).name == s) = false) (fun i => l.length - i) (0) (⟨by omega, fun j hj => absurd hj (Nat.not_lt_zero j)⟩) qa qa (fun _ => rfl) (by kernel_rfl) ?_; (conv => whnf))
 intro i hi
 (repeat' ((conv => whnf); first | refine zO ?_ | refine Ob.auto ?_ | refine zC 300 (qmc _ s) ?_ | refine zG 300 (fun hg => qmc _ s) ?_ | refine zX (qmc _ s) ?_ | refine zY (fun hg => qmc _ s) ?_ | refine zE 300 (qmc _ s) ?_ | refine zF 300 (fun hg => qmc _ s) ?_ | (refine qw (fun _ => rfl) (by kernel_rfl) 300 ?_) | (apply zB <;> intro hb <;> (try simp [-List.getD_eq_getElem?_getD] at hb) <;> try (exfalso; omega)) | refine Ob.intro ?_ ?_))
 ·refine Le.of_eq (congrArg (AV.int _) ?_)
  exact (qhd (fun v : Ch => v.name == s) l Ch.none i (by omega) (beq_iff_eq.2 hb) hi.2).symm
 ·((conv => whnf); refine ⟨i + 1, ⟨by omega, qcb hi.2 (beq_eq_false_iff_ne.2 hb)⟩, ⟨qa, qa⟩, ⟨qa, qa⟩, ?_⟩; (first | omega | (dsimp only; omega) | skip))
 ·refine Le.of_eq (congrArg (AV.int _) ?_)
  exact (qhe _ l Ch.none (fun j hj => hi.2 j (by omega))).symm

theorem qmf (l : List (List UInt8)) (hl : l.length ≤ 1000000) (s : List UInt8) : Con Try.prog 57 [strs l, .str s] (iv (Go.St.idx (· == s) l)) := by
 refine qi (T := tab Try.prog) (C := {}) 300 (fun _ => rfl) Try.func57 rfl (by kernel_rfl) (by kernel_rfl) (fun c0 rdb => ?_)
 (repeat' ((conv => whnf); first | refine zO ?_ | refine Ob.auto ?_ | (refine qw (fun _ => rfl) (by kernel_rfl) 300 ?_) | (apply zB <;> intro hb <;> (try simp [-List.getD_eq_getElem?_getD] at hb) <;> try (exfalso; omega)) | refine Ob.intro ?_ ?_))
 ((conv => whnf); refine jf (fun _ => rfl) 300 1 (fun i : Nat => [(8, iv i)]) (fun _ => []) (fun i => i ≤ l.length ∧ ∀ j, j < i → (l.getD j [] == s) = false) (fun i => l.length - i) (0) (⟨by omega, fun j hj => absurd hj (Nat.not_lt_zero j)⟩) qa qa (fun _ => rfl) (by kernel_rfl) ?_; (conv => whnf))
 intro i hi
 (repeat' ((conv => whnf); first | refine zO ?_ | refine Ob.auto ?_ | (refine qw (fun _ => rfl) (by kernel_rfl) 300 ?_) | (apply zB <;> intro hb <;> (try simp [-List.getD_eq_getElem?_getD] at hb) <;> try (exfalso; omega)) | refine Ob.intro ?_ ?_))
 ·refine Le.of_eq (congrArg (AV.int _) ?_)
  exact (qhd (· == s) l [] i (by omega) (beq_iff_eq.2 hb.symm) hi.2).symm
 ·((conv => whnf); refine ⟨i + 1, ⟨by omega, qcb hi.2 (beq_eq_false_iff_ne.2 (Ne.symm hb))⟩, ⟨qa, qa⟩, ⟨qa, qa⟩, ?_⟩; (first | omega | (dsimp only; omega) | skip))
 ·refine Le.of_eq (congrArg (AV.int _) ?_)
  exact (qhe _ l [] (fun j hj => hi.2 j (by omega))).symm

def varV (m : Md) (p : Int) (s : Stt) (n : List UInt8) : Int × Bool := if varN m p n < 0 then (0, false) else (s.vars.getD (varN m p n).toNat 0, true)
def lenV (m : Md) (s : Stt) (n : List UInt8) : Int × Bool := if Go.St.idx (fun c : Ch => c.name == n) m.chans < 0 then (0, false) else ((s.chans.getD (Go.St.idx (fun c : Ch => c.name == n) m.chans).toNat []).length, true)

theorem qmg (m : Md) (hm : MOk m) (p : Int) (s : Stt) (hs : SOk m s) (n : List UInt8) : Con Try.prog 54 [.str n, .rptr [iv p], .rptr m.cells, .rptr s.cells] (qkz (varV m p s n)) := by
 have hg := hm.glob
 have hsz := hm.sz
 have hvl := hs.vl
 have hcl := hs.cl
 have hvn := qyz hm p n
 by_cases hp : 0 ≤ p ∧ p < m.procs.length
 ·have hq := hm.procs _ (qp m.procs p.toNat Pr.none (by omega))
  have hq2 := hm.psz _ (qp m.procs p.toNat Pr.none (by omega))
  have hv : varN m p n = _ := if_pos hp
  have hix := qih (· == n) (m.procs.getD p.toNat Pr.none).names
  have hqv := fun (h : 0 ≤ Go.St.idx (· == n) (m.procs.getD p.toNat Pr.none).names) => hq.2 _ (qp (m.procs.getD p.toNat Pr.none).vars (Go.St.idx (· == n) (m.procs.getD p.toNat Pr.none).names).toNat 0 (by omega))
  refine qi (T := tab Try.prog) (C := {}) 300 (fun _ => rfl) Try.func54 rfl (by kernel_rfl) (by kernel_rfl) (fun c0 rdb => ?_)
  (repeat' ((conv => whnf); first | refine zO ?_ | refine Ob.auto ?_ | (refine Ob.intro (by (first | exact ⟨by omega, by omega⟩ | exact ⟨by have := hqv (by omega); omega, by have := hqv (by omega); omega⟩)) ?_) | refine zC 300 (qmf (m.procs.getD p.toNat Pr.none).names (by omega) n) ?_ | refine zG 300 (fun hg => qmf (m.procs.getD p.toNat Pr.none).names (by omega) n) ?_ | refine zX (qmf (m.procs.getD p.toNat Pr.none).names (by omega) n) ?_ | refine zY (fun hg => qmf (m.procs.getD p.toNat Pr.none).names (by omega) n) ?_ | refine zE 300 (qmf (m.procs.getD p.toNat Pr.none).names (by omega) n) ?_ | refine zF 300 (fun hg => qmf (m.procs.getD p.toNat Pr.none).names (by omega) n) ?_ | (refine qw (fun _ => rfl) (by kernel_rfl) 300 ?_) | (apply zB <;> intro hb <;> (try simp [-List.getD_eq_getElem?_getD] at hb) <;> try (exfalso; omega)) | refine Ob.intro ?_ ?_))
  ·have := hqv (by omega)
   rw [if_neg (by omega)] at hv
   refine Le.of_eq ?_
   rw [varV, if_neg (by omega), hv]; rfl
  ·rw [if_pos (by omega)] at hv
   refine Le.of_eq ?_
   rw [varV, if_pos (by omega)]; rfl
 ·have hv : varN m p n = _ := if_neg hp
  refine qi (T := tab Try.prog) (C := {}) 300 (fun _ => rfl) Try.func54 rfl (by kernel_rfl) (by kernel_rfl) (fun c0 rdb => ?_)
  (repeat' ((conv => whnf); first | refine zO ?_ | refine Ob.auto ?_ | (refine Ob.intro (by (exact ⟨by omega, by omega⟩)) ?_) | refine zC 300 (qmd m.vars m.globals.toNat (by omega) (by omega) n) ?_ | refine zG 300 (fun hg => qmd m.vars m.globals.toNat (by omega) (by omega) n) ?_ | refine zX (qmd m.vars m.globals.toNat (by omega) (by omega) n) ?_ | refine zY (fun hg => qmd m.vars m.globals.toNat (by omega) (by omega) n) ?_ | refine zE 300 (qmd m.vars m.globals.toNat (by omega) (by omega) n) ?_ | refine zF 300 (fun hg => qmd m.vars m.globals.toNat (by omega) (by omega) n) ?_ | (refine qw (fun _ => rfl) (by kernel_rfl) 300 ?_) | (apply zB <;> intro hb <;> (try simp [-List.getD_eq_getElem?_getD] at hb) <;> try (exfalso; omega)) | refine Ob.intro ?_ ?_))
  ·refine Le.of_eq ?_
   rw [varV, if_neg (by omega), hv]; rfl
  ·refine Le.of_eq ?_
   rw [varV, if_pos (by omega)]; rfl

theorem qmh (m : Md) (hm : MOk m) (s : Stt) (hs : SOk m s) (n : List UInt8) : Con Try.prog 58 [.str n, .rptr m.cells, .rptr s.cells] (qkz (lenV m s n)) := by
 have hsz := hm.sz
 have hcl := hs.cl
 have hi := qih (fun c : Ch => c.name == n) m.chans
 refine qi (T := tab Try.prog) (C := {}) 300 (fun _ => rfl) Try.func58 rfl (by kernel_rfl) (by kernel_rfl) (fun c0 rdb => ?_)
 (repeat' ((conv => whnf); first | refine zO ?_ | refine Ob.auto ?_ | (refine Ob.intro (by (exact ⟨by omega, by omega⟩)) ?_) | refine zC 300 (qme m.chans (by omega) n) ?_ | refine zG 300 (fun hg => qme m.chans (by omega) n) ?_ | refine zX (qme m.chans (by omega) n) ?_ | refine zY (fun hg => qme m.chans (by omega) n) ?_ | refine zE 300 (qme m.chans (by omega) n) ?_ | refine zF 300 (fun hg => qme m.chans (by omega) n) ?_ | (refine qw (fun _ => rfl) (by kernel_rfl) 300 ?_) | (apply zB <;> intro hb <;> (try simp [-List.getD_eq_getElem?_getD] at hb) <;> try (exfalso; omega)) | refine Ob.intro ?_ ?_))
 ·refine Le.of_eq ?_
  rw [lenV, if_neg (by omega)]; rfl
 ·refine Le.of_eq ?_
  rw [lenV, if_pos (by omega)]; rfl

def jcg (m : Md) (p : Int) (s : Stt) : AV := .agg [qbg m.tree, .fn 54 [.rptr [iv p], .rptr m.cells, .rptr s.cells], .fn 58 [.rptr m.cells, .rptr s.cells]]

theorem qfe (m : Md) (p : Int) (s : Stt) : Con Try.prog 32 [m.av, iv p, s.av] (jcg m p s) := by
 refine qi (T := tab Try.prog) (C := {}) 300 (fun _ => rfl) Try.func32 rfl (by kernel_rfl) (by kernel_rfl) (fun c0 rdb => ?_)
 (repeat' ((conv => whnf); first | refine zO ?_ | refine Ob.auto ?_ | (refine qw (fun _ => rfl) (by kernel_rfl) 300 ?_) | (apply zB <;> intro hb <;> (try simp [-List.getD_eq_getElem?_getD] at hb) <;> try (exfalso; omega)) | refine Ob.intro ?_ ?_))
 exact Le.of_eq (by kernel_rfl)

theorem qff (m : Md) (hm : MOk m) (p : Int) (s : Stt) (hs : SOk m s) : ∀ (n : Nat) (k : Int), 0 ≤ k → k < m.tree.length → m.tree.length - k.toNat ≤ n → Con Try.prog 33 [jcg m p s, iv k] (qkz (valN m p s n k)) := by
 intro n
 induction n with
 | zero => intro k h0 h1 h2; omega
 | succ n ih =>
  intro k h0 h1 h2
  have hnd := hm.tree k.toNat (by omega)
  have h17 := hnd.num
  have h18 := hnd.word
  have h20 := hnd.un
  have h22 := hnd.bin
  have hsz := hm.sz
  have hvb := jjy hm hs p n
  have hvl := hs.vl
  have hcl := hs.cl
  have hk0 : (m.tree.getD k.toNat Nd.none).kind = 20 ∨ (m.tree.getD k.toNat Nd.none).kind = 21 ∨ (m.tree.getD k.toNat Nd.none).kind = 22 → 0 ≤ (m.tree.getD k.toNat Nd.none).kids.getD 0 0 ∧ (m.tree.getD k.toNat Nd.none).kids.getD 0 0 < m.tree.length ∧ m.tree.length - ((m.tree.getD k.toNat Nd.none).kids.getD 0 0).toNat ≤ n := by omega
  have hk1 : (m.tree.getD k.toNat Nd.none).kind = 22 → 0 ≤ (m.tree.getD k.toNat Nd.none).kids.getD 1 0 ∧ (m.tree.getD k.toNat Nd.none).kids.getD 1 0 < m.tree.length ∧ m.tree.length - ((m.tree.getD k.toNat Nd.none).kids.getD 1 0).toNat ≤ n := by omega
  have hb0 := hvb ((m.tree.getD k.toNat Nd.none).kids.getD 0 0)
  have hb1 := hvb ((m.tree.getD k.toNat Nd.none).kids.getD 1 0)
  refine qi (T := tab Try.prog) (C := {}) 600 (fun _ => rfl) Try.func33 rfl (by kernel_rfl) (by kernel_rfl) (fun c0 rdb => ?_)
  (repeat' ((conv => whnf); first | refine zO ?_ | refine Ob.auto ?_ | (refine Ob.intro (by (first | exact ⟨by omega, by omega⟩ | exact jg (by omega) (by omega))) ?_) | refine zC 600 (qbo _ _) ?_ | refine zG 600 (fun hg => qbo _ _) ?_ | refine zX (qbo _ _) ?_ | refine zY (fun hg => qbo _ _) ?_ | refine zC 600 (qmg m hm p s hs _) ?_ | refine zG 600 (fun hg => qmg m hm p s hs _) ?_ | refine zX (qmg m hm p s hs _) ?_ | refine zY (fun hg => qmg m hm p s hs _) ?_ | refine zC 600 (qmh m hm s hs _) ?_ | refine zG 600 (fun hg => qmh m hm s hs _) ?_ | refine zX (qmh m hm s hs _) ?_ | refine zY (fun hg => qmh m hm s hs _) ?_ | refine zC 600 (qio _) ?_ | refine zG 600 (fun hg => qio _) ?_ | refine zX (qio _) ?_ | refine zY (fun hg => qio _) ?_ | refine zC 600 (qlp _ _ _ (by omega) (by omega)) ?_ | refine zG 600 (fun hg => qlp _ _ _ (by omega) (by omega)) ?_ | refine zX (qlp _ _ _ (by omega) (by omega)) ?_ | refine zY (fun hg => qlp _ _ _ (by omega) (by omega)) ?_ | refine zC 600 (ih ((m.tree.getD k.toNat Nd.none).kids.getD 0 0) (hk0 (by omega)).1 (hk0 (by omega)).2.1 (hk0 (by omega)).2.2) ?_ | refine zG 600 (fun hg => ih ((m.tree.getD k.toNat Nd.none).kids.getD 0 0) (hk0 (by omega)).1 (hk0 (by omega)).2.1 (hk0 (by omega)).2.2) ?_ | refine zX (ih ((m.tree.getD k.toNat Nd.none).kids.getD 0 0) (hk0 (by omega)).1 (hk0 (by omega)).2.1 (hk0 (by omega)).2.2) ?_ | refine zY (fun hg => ih ((m.tree.getD k.toNat Nd.none).kids.getD 0 0) (hk0 (by omega)).1 (hk0 (by omega)).2.1 (hk0 (by omega)).2.2) ?_ | refine zC 600 (ih ((m.tree.getD k.toNat Nd.none).kids.getD 1 0) (hk1 (by omega)).1 (hk1 (by omega)).2.1 (hk1 (by omega)).2.2) ?_ | refine zG 600 (fun hg => ih ((m.tree.getD k.toNat Nd.none).kids.getD 1 0) (hk1 (by omega)).1 (hk1 (by omega)).2.1 (hk1 (by omega)).2.2) ?_ | refine zX (ih ((m.tree.getD k.toNat Nd.none).kids.getD 1 0) (hk1 (by omega)).1 (hk1 (by omega)).2.1 (hk1 (by omega)).2.2) ?_ | refine zY (fun hg => ih ((m.tree.getD k.toNat Nd.none).kids.getD 1 0) (hk1 (by omega)).1 (hk1 (by omega)).2.1 (hk1 (by omega)).2.2) ?_ | refine zE 600 (qbo _ _) ?_ | refine zF 600 (fun hg => qbo _ _) ?_ | refine zE 600 (qmg m hm p s hs _) ?_ | refine zF 600 (fun hg => qmg m hm p s hs _) ?_ | refine zE 600 (qmh m hm s hs _) ?_ | refine zF 600 (fun hg => qmh m hm s hs _) ?_ | refine zE 600 (qio _) ?_ | refine zF 600 (fun hg => qio _) ?_ | refine zE 600 (qlp _ _ _ (by omega) (by omega)) ?_ | refine zF 600 (fun hg => qlp _ _ _ (by omega) (by omega)) ?_ | refine zE 600 (ih ((m.tree.getD k.toNat Nd.none).kids.getD 0 0) (hk0 (by omega)).1 (hk0 (by omega)).2.1 (hk0 (by omega)).2.2) ?_ | refine zF 600 (fun hg => ih ((m.tree.getD k.toNat Nd.none).kids.getD 0 0) (hk0 (by omega)).1 (hk0 (by omega)).2.1 (hk0 (by omega)).2.2) ?_ | refine zE 600 (ih ((m.tree.getD k.toNat Nd.none).kids.getD 1 0) (hk1 (by omega)).1 (hk1 (by omega)).2.1 (hk1 (by omega)).2.2) ?_ | refine zF 600 (fun hg => ih ((m.tree.getD k.toNat Nd.none).kids.getD 1 0) (hk1 (by omega)).1 (hk1 (by omega)).2.1 (hk1 (by omega)).2.2) ?_ | (refine qw (fun _ => rfl) (by kernel_rfl) 600 ?_) | (apply zB <;> intro hb <;> (try simp [-List.getD_eq_getElem?_getD] at hb) <;> try (exfalso; omega)) | refine Ob.intro ?_ ?_))
  ·refine Le.of_eq ?_
   rw [valN, if_pos (by assumption)]; rfl
  ·refine Le.of_eq ?_
   rw [valN, if_neg (by assumption), if_pos (by assumption)]; rfl
  ·refine Le.of_eq ?_
   rw [valN, if_neg (by assumption), if_neg (by assumption), if_pos (by assumption)]; rfl
  ·refine Le.of_eq ?_
   rw [valN, if_neg (by assumption), if_neg (by assumption), if_neg (by assumption), if_pos (by assumption)]; rfl
  ·refine Le.of_eq ?_
   rw [qza m p s n k (by assumption), hb]; rfl
  ·refine Le.of_eq ?_
   rw [qza m p s n k (by assumption), hb, Bool.true_and]; rfl
  ·refine Le.of_eq ?_
   rw [qzb m p s n k (by assumption), binF, if_neg (fun h => by rcases hb with hb | hb <;> rw [hb] at h <;> simp at h)]; rfl
  ·refine Le.of_eq ?_
   rw [qzb m p s n k (by assumption), binF, if_pos hb]; rfl
  ·refine Le.of_eq ?_
   rw [valN, if_neg (by assumption), if_neg (by assumption), if_neg (by assumption), if_neg (by assumption), if_neg (by assumption), if_neg (by assumption)]; rfl


end Go.Proofs.Ytdoaagphhjggbaa
