/- Some texts of the library, one behind the other. -/
import Derived.Test.YtdoaagphhjggbaaGreatQ36
import Derived.Test.YtdoaagphhjggbaaGreatQ2
section
/- Contracts: what the program's expressions see of a state. -/
namespace Go.Proofs.YtdoaagphhjggbaaGreat
open List renaming getD_eq_getElem?_getD → zd
open Go Go.Sx Go.RowKit Go.St
set_option maxRecDepth 100000
set_option maxHeartbeats 2000000
theorem qmz (v : Vr) (s : List UInt8) : Con Tryz.prog 110 [.agg v.cells, .rptr [.str s]] (.bool (v.name == s)) := by
 refine qd (T := tab Tryz.prog) (C := {}) 300 (fun _ => rfl) Tryz.func110 rfl (by kernel_rfl) (by kernel_rfl) (fun c0 rdb => ?_)
 (repeat' ((conv => whnf); first | refine zO ?_ | refine Ob.auto ?_ | (refine zP 300 ?_) | (apply zB <;> intro hb <;> (try simp [-zd] at hb) <;> try (exfalso; omega)) | refine Ob.intro ?_ ?_))
 exact Le.refl _
theorem qna (v : Ch) (s : List UInt8) : Con Tryz.prog 114 [.agg v.cells, .rptr [.str s]] (.bool (v.name == s)) := by
 refine qd (T := tab Tryz.prog) (C := {}) 300 (fun _ => rfl) Tryz.func114 rfl (by kernel_rfl) (by kernel_rfl) (fun c0 rdb => ?_)
 (repeat' ((conv => whnf); first | refine zO ?_ | refine Ob.auto ?_ | (refine zP 300 ?_) | (apply zB <;> intro hb <;> (try simp [-zd] at hb) <;> try (exfalso; omega)) | refine Ob.intro ?_ ?_))
 exact Le.refl _
theorem qnb (l : List Vr) (n : Nat) (hn : n ≤ l.length) (hl : n ≤ 1000000) (s : List UInt8) : Con Tryz.prog 111 [.slc 3 n (encL Vr.cells Vr.none l), .fn 110 [.rptr [.str s]]] (iv (Go.St.idx (fun v : Vr => v.name == s) (l.take n))) := by
 have htk : ∀ j : Nat, j < n → (l.take n).getD j Vr.none = l.getD j Vr.none := fun j hj => by
  rw [zd, List.getElem?_take, if_pos hj, ← zd]
 have hln : (l.take n).length = n := by rw [List.length_take]; omega
 refine qd (T := tab Tryz.prog) (C := {}) 300 (fun _ => rfl) Tryz.func111 rfl (by kernel_rfl) (by kernel_rfl) (fun c0 rdb => ?_)
 (repeat' ((conv => whnf); first | refine zO ?_ | refine Ob.auto ?_ | (refine zP 300 ?_) | (apply zB <;> intro hb <;> (try simp [-zd] at hb) <;> try (exfalso; omega)) | refine Ob.intro ?_ ?_))
 ((conv => whnf); refine qp (fun _ => rfl) 300 1 (fun i : Nat => [(8, iv i)]) (fun _ => []) (fun i => i ≤ n ∧ ∀ j, j < i → ((l.getD j Vr.none).name == s) = false) (fun i => n - i) (0) (⟨by omega, fun j hj => absurd hj (Nat.not_lt_zero j)⟩) qa qa (fun _ => rfl) (by kernel_rfl) ?_; (conv => whnf))
 intro i hi
 (repeat' ((conv => whnf); first | refine zO ?_ | refine Ob.auto ?_ | refine zC 300 (qmz _ s) ?_ | refine zG 300 (fun hg => qmz _ s) ?_ | refine zX (qmz _ s) ?_ | refine zY (fun hg => qmz _ s) ?_ | refine zE 300 (qmz _ s) ?_ | refine zF 300 (fun hg => qmz _ s) ?_ | (refine zP 300 ?_) | (apply zB <;> intro hb <;> (try simp [-zd] at hb) <;> try (exfalso; omega)) | refine Ob.intro ?_ ?_))
 ·refine Le.of_eq (congrArg (AV.int _) ?_)
  exact (qey _ (l.take n) Vr.none i (by omega) (by rw [htk i (by omega)]; exact beq_iff_eq.2 hb) (fun j hj => by rw [htk j (by omega)]; exact hi.2 j hj)).symm
 ·((conv => whnf); refine ⟨i + 1, ⟨by omega, qao hi.2 (beq_eq_false_iff_ne.2 hb)⟩, ⟨qa, qa⟩, ⟨qa, qa⟩, ?_⟩; (first | omega | (dsimp only; omega) | skip))
 ·refine Le.of_eq (congrArg (AV.int _) ?_)
  exact (qez _ (l.take n) Vr.none (fun j hj => by rw [htk j (by omega)]; exact hi.2 j (by omega))).symm
theorem qnc (l : List Ch) (hl : l.length ≤ 1000000) (s : List UInt8) : Con Tryz.prog 115 [slcL Ch.cells Ch.none 5 l, .fn 114 [.rptr [.str s]]] (iv (Go.St.idx (fun v : Ch => v.name == s) l)) := by
 refine qd (T := tab Tryz.prog) (C := {}) 300 (fun _ => rfl) Tryz.func115 rfl (by kernel_rfl) (by kernel_rfl) (fun c0 rdb => ?_)
 (repeat' ((conv => whnf); first | refine zO ?_ | refine Ob.auto ?_ | (refine zP 300 ?_) | (apply zB <;> intro hb <;> (try simp [-zd] at hb) <;> try (exfalso; omega)) | refine Ob.intro ?_ ?_))
 ((conv => whnf); refine qp (fun _ => rfl) 300 1 (fun i : Nat => [(8, iv i)]) (fun _ => []) (fun i => i ≤ l.length ∧ ∀ j, j < i → ((l.getD j Ch.none).name == s) = false) (fun i => l.length - i) (0) (⟨by omega, fun j hj => absurd hj (Nat.not_lt_zero j)⟩) qa qa (fun _ => rfl) (by kernel_rfl) ?_; (conv => whnf))
 intro i hi
 (repeat' ((conv => whnf); first | refine zO ?_ | refine Ob.auto ?_ | refine zC 300 (qna _ s) ?_ | refine zG 300 (fun hg => qna _ s) ?_ | refine zX (qna _ s) ?_ | refine zY (fun hg => qna _ s) ?_ | refine zE 300 (qna _ s) ?_ | refine zF 300 (fun hg => qna _ s) ?_ | (refine zP 300 ?_) | (apply zB <;> intro hb <;> (try simp [-zd] at hb) <;> try (exfalso; omega)) | refine Ob.intro ?_ ?_))
 ·refine Le.of_eq (congrArg (AV.int _) ?_)
  exact (qey (fun v : Ch => v.name == s) l Ch.none i (by omega) (beq_iff_eq.2 hb) hi.2).symm
 ·((conv => whnf); refine ⟨i + 1, ⟨by omega, qao hi.2 (beq_eq_false_iff_ne.2 hb)⟩, ⟨qa, qa⟩, ⟨qa, qa⟩, ?_⟩; (first | omega | (dsimp only; omega) | skip))
 ·refine Le.of_eq (congrArg (AV.int _) ?_)
  exact (qez _ l Ch.none (fun j hj => hi.2 j (by omega))).symm
theorem qnd (l : List (List UInt8)) (hl : l.length ≤ 1000000) (s : List UInt8) : Con Tryz.prog 112 [strs l, .str s] (iv (Go.St.idx (· == s) l)) := by
 refine qd (T := tab Tryz.prog) (C := {}) 300 (fun _ => rfl) Tryz.func112 rfl (by kernel_rfl) (by kernel_rfl) (fun c0 rdb => ?_)
 (repeat' ((conv => whnf); first | refine zO ?_ | refine Ob.auto ?_ | (refine zP 300 ?_) | (apply zB <;> intro hb <;> (try simp [-zd] at hb) <;> try (exfalso; omega)) | refine Ob.intro ?_ ?_))
 ((conv => whnf); refine qp (fun _ => rfl) 300 1 (fun i : Nat => [(8, iv i)]) (fun _ => []) (fun i => i ≤ l.length ∧ ∀ j, j < i → (l.getD j [] == s) = false) (fun i => l.length - i) (0) (⟨by omega, fun j hj => absurd hj (Nat.not_lt_zero j)⟩) qa qa (fun _ => rfl) (by kernel_rfl) ?_; (conv => whnf))
 intro i hi
 (repeat' ((conv => whnf); first | refine zO ?_ | refine Ob.auto ?_ | (refine zP 300 ?_) | (apply zB <;> intro hb <;> (try simp [-zd] at hb) <;> try (exfalso; omega)) | refine Ob.intro ?_ ?_))
 ·refine Le.of_eq (congrArg (AV.int _) ?_)
  exact (qey (· == s) l [] i (by omega) (beq_iff_eq.2 hb.symm) hi.2).symm
 ·((conv => whnf); refine ⟨i + 1, ⟨by omega, qao hi.2 (beq_eq_false_iff_ne.2 (Ne.symm hb))⟩, ⟨qa, qa⟩, ⟨qa, qa⟩, ?_⟩; (first | omega | (dsimp only; omega) | skip))
 ·refine Le.of_eq (congrArg (AV.int _) ?_)
  exact (qez _ l [] (fun j hj => hi.2 j (by omega))).symm
def varV (m : Md) (p : Int) (s : Stt) (n : List UInt8) : Int × Bool := if varN m p n < 0 then (0, false) else (s.vars.getD (varN m p n).toNat 0, true)
def lenV (m : Md) (s : Stt) (n : List UInt8) : Int × Bool := if Go.St.idx (fun c : Ch => c.name == n) m.chans < 0 then (0, false) else ((s.chans.getD (Go.St.idx (fun c : Ch => c.name == n) m.chans).toNat []).length, true)
theorem qne (m : Md) (hm : MOk m) (p : Int) (s : Stt) (hs : SOk m s) (n : List UInt8) : Con Tryz.prog 109 [.str n, .rptr [iv p], .rptr m.cells, .rptr s.cells] (qkf (varV m p s n)) := by
 have hg := hm.glob
 have hsz := hm.sz
 have hvl := hs.vl
 have hcl := hs.cl
 have hvn := qvi hm p n
 by_cases hp : 0 ≤ p ∧ p < m.procs.length
 ·have hq := hm.procs _ (qj m.procs p.toNat Pr.none (by omega))
  have hq2 := hm.psz _ (qj m.procs p.toNat Pr.none (by omega))
  have hv : varN m p n = _ := if_pos hp
  have hix := qja (· == n) (m.procs.getD p.toNat Pr.none).names
  have hqv := fun (h : 0 ≤ Go.St.idx (· == n) (m.procs.getD p.toNat Pr.none).names) => hq.2 _ (qj (m.procs.getD p.toNat Pr.none).vars (Go.St.idx (· == n) (m.procs.getD p.toNat Pr.none).names).toNat 0 (by omega))
  refine qd (T := tab Tryz.prog) (C := {}) 300 (fun _ => rfl) Tryz.func109 rfl (by kernel_rfl) (by kernel_rfl) (fun c0 rdb => ?_)
  (repeat' ((conv => whnf); first | refine zO ?_ | refine Ob.auto ?_ | (refine Ob.intro (by (first | exact ⟨by omega, by omega⟩ | exact ⟨by have := hqv (by omega); omega, by have := hqv (by omega); omega⟩)) ?_) | refine zC 300 (qnd (m.procs.getD p.toNat Pr.none).names (by omega) n) ?_ | refine zG 300 (fun hg => qnd (m.procs.getD p.toNat Pr.none).names (by omega) n) ?_ | refine zX (qnd (m.procs.getD p.toNat Pr.none).names (by omega) n) ?_ | refine zY (fun hg => qnd (m.procs.getD p.toNat Pr.none).names (by omega) n) ?_ | refine zE 300 (qnd (m.procs.getD p.toNat Pr.none).names (by omega) n) ?_ | refine zF 300 (fun hg => qnd (m.procs.getD p.toNat Pr.none).names (by omega) n) ?_ | (refine zP 300 ?_) | (apply zB <;> intro hb <;> (try simp [-zd] at hb) <;> try (exfalso; omega)) | refine Ob.intro ?_ ?_))
  ·have := hqv (by omega)
   rw [if_neg (by omega)] at hv
   refine Le.of_eq ?_
   rw [varV, if_neg (by omega), hv]; rfl
  ·rw [if_pos (by omega)] at hv
   refine Le.of_eq ?_
   rw [varV, if_pos (by omega)]; rfl
 ·have hv : varN m p n = _ := if_neg hp
  refine qd (T := tab Tryz.prog) (C := {}) 300 (fun _ => rfl) Tryz.func109 rfl (by kernel_rfl) (by kernel_rfl) (fun c0 rdb => ?_)
  (repeat' ((conv => whnf); first | refine zO ?_ | refine Ob.auto ?_ | refine zI ?_ | refine zC 300 (qnb m.vars m.globals.toNat (by omega) (by omega) n) ?_ | refine zG 300 (fun hg => qnb m.vars m.globals.toNat (by omega) (by omega) n) ?_ | refine zX (qnb m.vars m.globals.toNat (by omega) (by omega) n) ?_ | refine zY (fun hg => qnb m.vars m.globals.toNat (by omega) (by omega) n) ?_ | refine zE 300 (qnb m.vars m.globals.toNat (by omega) (by omega) n) ?_ | refine zF 300 (fun hg => qnb m.vars m.globals.toNat (by omega) (by omega) n) ?_ | (refine zP 300 ?_) | (apply zB <;> intro hb <;> (try simp [-zd] at hb) <;> try (exfalso; omega)) | refine Ob.intro ?_ ?_))
  ·refine Le.of_eq ?_
   rw [varV, if_neg (by omega), hv]; rfl
  ·refine Le.of_eq ?_
   rw [varV, if_pos (by omega)]; rfl
theorem qnf (m : Md) (hm : MOk m) (s : Stt) (hs : SOk m s) (n : List UInt8) : Con Tryz.prog 113 [.str n, .rptr m.cells, .rptr s.cells] (qkf (lenV m s n)) := by
 have hsz := hm.sz
 have hcl := hs.cl
 have hi := qja (fun c : Ch => c.name == n) m.chans
 refine qd (T := tab Tryz.prog) (C := {}) 300 (fun _ => rfl) Tryz.func113 rfl (by kernel_rfl) (by kernel_rfl) (fun c0 rdb => ?_)
 (repeat' ((conv => whnf); first | refine zO ?_ | refine Ob.auto ?_ | refine zI ?_ | refine zC 300 (qnc m.chans (by omega) n) ?_ | refine zG 300 (fun hg => qnc m.chans (by omega) n) ?_ | refine zX (qnc m.chans (by omega) n) ?_ | refine zY (fun hg => qnc m.chans (by omega) n) ?_ | refine zE 300 (qnc m.chans (by omega) n) ?_ | refine zF 300 (fun hg => qnc m.chans (by omega) n) ?_ | (refine zP 300 ?_) | (apply zB <;> intro hb <;> (try simp [-zd] at hb) <;> try (exfalso; omega)) | refine Ob.intro ?_ ?_))
 ·refine Le.of_eq ?_
  rw [lenV, if_neg (by omega)]; rfl
 ·refine Le.of_eq ?_
  rw [lenV, if_pos (by omega)]; rfl
def jeb (m : Md) (p : Int) (s : Stt) : AV := .agg [jt m.tree, .fn 109 [.rptr [iv p], .rptr m.cells, .rptr s.cells], .fn 113 [.rptr m.cells, .rptr s.cells]]
theorem qfp (m : Md) (p : Int) (s : Stt) : Con Tryz.prog 76 [m.av, iv p, s.av] (jeb m p s) := by
 refine qd (T := tab Tryz.prog) (C := {}) 300 (fun _ => rfl) Tryz.func76 rfl (by kernel_rfl) (by kernel_rfl) (fun c0 rdb => ?_)
 (repeat' ((conv => whnf); first | refine zO ?_ | refine Ob.auto ?_ | (refine zP 300 ?_) | (apply zB <;> intro hb <;> (try simp [-zd] at hb) <;> try (exfalso; omega)) | refine Ob.intro ?_ ?_))
 exact Le.of_eq (by kernel_rfl)
theorem qfq (m : Md) (hm : MOk m) (p : Int) (s : Stt) (hs : SOk m s) : ∀ (n : Nat) (k : Int), 0 ≤ k → k < m.tree.length → m.tree.length - k.toNat ≤ n → Con Tryz.prog 77 [jeb m p s, iv k] (qkf (valN m p s n k)) := by
 intro n
 induction n with
 | zero => intro k h0 h1 h2; omega
 | succ n ih =>
  intro k h0 h1 h2
  have hnd := hm.tree k.toNat (by omega)
  have h17 := hnd.num
  have h18 := hnd.word
  have h20 := hnd.un
  have h22 := hnd.bin
  have hsz := hm.sz
  have hvb := jau hm hs p n
  have hvl := hs.vl
  have hcl := hs.cl
  have hk0 : (m.tree.getD k.toNat Nd.none).kind = 20 ∨ (m.tree.getD k.toNat Nd.none).kind = 21 ∨ (m.tree.getD k.toNat Nd.none).kind = 22 → 0 ≤ (m.tree.getD k.toNat Nd.none).kids.getD 0 0 ∧ (m.tree.getD k.toNat Nd.none).kids.getD 0 0 < m.tree.length ∧ m.tree.length - ((m.tree.getD k.toNat Nd.none).kids.getD 0 0).toNat ≤ n := by omega
  have hk1 : (m.tree.getD k.toNat Nd.none).kind = 22 → 0 ≤ (m.tree.getD k.toNat Nd.none).kids.getD 1 0 ∧ (m.tree.getD k.toNat Nd.none).kids.getD 1 0 < m.tree.length ∧ m.tree.length - ((m.tree.getD k.toNat Nd.none).kids.getD 1 0).toNat ≤ n := by omega
  have hb0 := hvb ((m.tree.getD k.toNat Nd.none).kids.getD 0 0)
  have hb1 := hvb ((m.tree.getD k.toNat Nd.none).kids.getD 1 0)
  refine qd (T := tab Tryz.prog) (C := {}) 600 (fun _ => rfl) Tryz.func77 rfl (by kernel_rfl) (by kernel_rfl) (fun c0 rdb => ?_)
  (repeat' ((conv => whnf); first | refine zO ?_ | refine Ob.auto ?_ | (refine Ob.intro (by (first | exact ⟨by omega, by omega⟩ | exact ja (by omega) (by omega))) ?_) | refine zC 600 (qbm _ _) ?_ | refine zG 600 (fun hg => qbm _ _) ?_ | refine zX (qbm _ _) ?_ | refine zY (fun hg => qbm _ _) ?_ | refine zC 600 (qne m hm p s hs _) ?_ | refine zG 600 (fun hg => qne m hm p s hs _) ?_ | refine zX (qne m hm p s hs _) ?_ | refine zY (fun hg => qne m hm p s hs _) ?_ | refine zC 600 (qnf m hm s hs _) ?_ | refine zG 600 (fun hg => qnf m hm s hs _) ?_ | refine zX (qnf m hm s hs _) ?_ | refine zY (fun hg => qnf m hm s hs _) ?_ | refine zC 600 (qjk _) ?_ | refine zG 600 (fun hg => qjk _) ?_ | refine zX (qjk _) ?_ | refine zY (fun hg => qjk _) ?_ | refine zC 600 (qmo _ _ _ (by omega) (by omega)) ?_ | refine zG 600 (fun hg => qmo _ _ _ (by omega) (by omega)) ?_ | refine zX (qmo _ _ _ (by omega) (by omega)) ?_ | refine zY (fun hg => qmo _ _ _ (by omega) (by omega)) ?_ | refine zC 600 (ih ((m.tree.getD k.toNat Nd.none).kids.getD 0 0) (hk0 (by omega)).1 (hk0 (by omega)).2.1 (hk0 (by omega)).2.2) ?_ | refine zG 600 (fun hg => ih ((m.tree.getD k.toNat Nd.none).kids.getD 0 0) (hk0 (by omega)).1 (hk0 (by omega)).2.1 (hk0 (by omega)).2.2) ?_ | refine zX (ih ((m.tree.getD k.toNat Nd.none).kids.getD 0 0) (hk0 (by omega)).1 (hk0 (by omega)).2.1 (hk0 (by omega)).2.2) ?_ | refine zY (fun hg => ih ((m.tree.getD k.toNat Nd.none).kids.getD 0 0) (hk0 (by omega)).1 (hk0 (by omega)).2.1 (hk0 (by omega)).2.2) ?_ | refine zC 600 (ih ((m.tree.getD k.toNat Nd.none).kids.getD 1 0) (hk1 (by omega)).1 (hk1 (by omega)).2.1 (hk1 (by omega)).2.2) ?_ | refine zG 600 (fun hg => ih ((m.tree.getD k.toNat Nd.none).kids.getD 1 0) (hk1 (by omega)).1 (hk1 (by omega)).2.1 (hk1 (by omega)).2.2) ?_ | refine zX (ih ((m.tree.getD k.toNat Nd.none).kids.getD 1 0) (hk1 (by omega)).1 (hk1 (by omega)).2.1 (hk1 (by omega)).2.2) ?_ | refine zY (fun hg => ih ((m.tree.getD k.toNat Nd.none).kids.getD 1 0) (hk1 (by omega)).1 (hk1 (by omega)).2.1 (hk1 (by omega)).2.2) ?_ | refine zE 600 (qbm _ _) ?_ | refine zF 600 (fun hg => qbm _ _) ?_ | refine zE 600 (qne m hm p s hs _) ?_ | refine zF 600 (fun hg => qne m hm p s hs _) ?_ | refine zE 600 (qnf m hm s hs _) ?_ | refine zF 600 (fun hg => qnf m hm s hs _) ?_ | refine zE 600 (qjk _) ?_ | refine zF 600 (fun hg => qjk _) ?_ | refine zE 600 (qmo _ _ _ (by omega) (by omega)) ?_ | refine zF 600 (fun hg => qmo _ _ _ (by omega) (by omega)) ?_ | refine zE 600 (ih ((m.tree.getD k.toNat Nd.none).kids.getD 0 0) (hk0 (by omega)).1 (hk0 (by omega)).2.1 (hk0 (by omega)).2.2) ?_ | refine zF 600 (fun hg => ih ((m.tree.getD k.toNat Nd.none).kids.getD 0 0) (hk0 (by omega)).1 (hk0 (by omega)).2.1 (hk0 (by omega)).2.2) ?_ | refine zE 600 (ih ((m.tree.getD k.toNat Nd.none).kids.getD 1 0) (hk1 (by omega)).1 (hk1 (by omega)).2.1 (hk1 (by omega)).2.2) ?_ | refine zF 600 (fun hg => ih ((m.tree.getD k.toNat Nd.none).kids.getD 1 0) (hk1 (by omega)).1 (hk1 (by omega)).2.1 (hk1 (by omega)).2.2) ?_ | (refine zP 600 ?_) | (apply zB <;> intro hb <;> (try simp [-zd] at hb) <;> try (exfalso; omega)) | refine Ob.intro ?_ ?_))
  ·refine Le.of_eq ?_
   rw [valN, if_pos (by assumption)]; rfl
  ·refine Le.of_eq ?_
   rw [valN, if_neg (by assumption), if_pos (by assumption)]; rfl
  ·refine Le.of_eq ?_
   rw [valN, if_neg (by assumption), if_neg (by assumption), if_pos (by assumption)]; rfl
  ·refine Le.of_eq ?_
   rw [valN, if_neg (by assumption), if_neg (by assumption), if_neg (by assumption), if_pos (by assumption)]; rfl
  ·refine Le.of_eq ?_
   rw [qvj m p s n k (by assumption), hb]; rfl
  ·refine Le.of_eq ?_
   rw [qvj m p s n k (by assumption), hb, Bool.true_and]; rfl
  ·refine Le.of_eq ?_
   rw [qvk m p s n k (by assumption), binF, if_neg (fun h => by rcases hb with hb | hb <;> rw [hb] at h <;> simp at h)]; rfl
  ·refine Le.of_eq ?_
   rw [qvk m p s n k (by assumption), binF, if_pos hb]; rfl
  ·refine Le.of_eq ?_
   rw [valN, if_neg (by assumption), if_neg (by assumption), if_neg (by assumption), if_neg (by assumption), if_neg (by assumption), if_neg (by assumption)]; rfl
end Go.Proofs.YtdoaagphhjggbaaGreat
end
section
/- Contracts: the program's expressions, and what is safe. -/
namespace Go.Proofs.YtdoaagphhjggbaaGreat
open List renaming getD_eq_getElem?_getD → zd
open Go Go.Sx Go.RowKit Go.St
set_option maxRecDepth 100000
set_option maxHeartbeats 2000000
theorem qpu {m : Md} {s : Stt} (hm : MOk m) (h : qw m s = true) : SOk m s := by
 obtain ⟨h0, hA, hV, hC⟩ := (qaa m s).1 h
 refine ⟨h0.2.1, h0.2.2.1, fun v hv => ?_, fun c hc => ?_⟩
 ·obtain ⟨i, hi, rfl⟩ := List.mem_iff_getElem.1 hv
  have h1 := hV i hi
  have h2 := qvh (s.vars.getD i 0) (m.vars.getD i Vr.none).width
  unfold qlx at h1
  rw [h1] at h2
  rw [zd, List.getElem?_eq_getElem hi] at h2
  simp only [Option.getD_some] at h2
  omega
 ·obtain ⟨i, hi, rfl⟩ := List.mem_iff_getElem.1 hc
  have h1 := (hC i hi).1
  have h2 := hm.chan _ (qj m.chans i Ch.none (by omega))
  unfold qjc at h1
  rw [zd, List.getElem?_eq_getElem hi] at h1
  simp only [Option.getD_some] at h1
  omega
def sval (m : Md) (p : Int) (s : Stt) (k : Int) : Int × Bool := if 0 ≤ k ∧ k < m.tree.length ∧ qw m s = true then val m p s k else (0, false)
theorem qjn (m : Md) (hm : MOk m) (p : Int) (s : Stt) (hs : SSz s) (k : Int) : Con Tryz.prog 75 [m.av, iv p, s.av, iv k] (qkf (sval m p s k)) := by
 have hsz := hm.sz
 by_cases hf : 0 ≤ k ∧ k < m.tree.length ∧ qw m s = true
 ·have hso := qpu hm hf.2.2
  refine qd (T := tab Tryz.prog) (C := {}) 300 (fun _ => rfl) Tryz.func75 rfl (by kernel_rfl) (by kernel_rfl) (fun c0 rdb => ?_)
  (repeat' ((conv => whnf); first | refine zO ?_ | refine Ob.auto ?_ | refine zC 300 (jp m s hs) ?_ | refine zG 300 (fun hg => jp m s hs) ?_ | refine zX (jp m s hs) ?_ | refine zY (fun hg => jp m s hs) ?_ | refine zC 300 (qfp m p s) ?_ | refine zG 300 (fun hg => qfp m p s) ?_ | refine zX (qfp m p s) ?_ | refine zY (fun hg => qfp m p s) ?_ | refine zC 300 (qfq m hm p s hso m.tree.length k (by omega) (by omega) (by omega)) ?_ | refine zG 300 (fun hg => qfq m hm p s hso m.tree.length k (by omega) (by omega) (by omega)) ?_ | refine zX (qfq m hm p s hso m.tree.length k (by omega) (by omega) (by omega)) ?_ | refine zY (fun hg => qfq m hm p s hso m.tree.length k (by omega) (by omega) (by omega)) ?_ | refine zE 300 (jp m s hs) ?_ | refine zF 300 (fun hg => jp m s hs) ?_ | refine zE 300 (qfp m p s) ?_ | refine zF 300 (fun hg => qfp m p s) ?_ | refine zE 300 (qfq m hm p s hso m.tree.length k (by omega) (by omega) (by omega)) ?_ | refine zF 300 (fun hg => qfq m hm p s hso m.tree.length k (by omega) (by omega) (by omega)) ?_ | (refine zP 300 ?_) | (apply zB <;> intro hb <;> (try simp [-zd] at hb) <;> try (exfalso; omega)) | refine Ob.intro ?_ ?_))
  ·exfalso; rcases hb with hb | hb
   ·omega
   ·rw [hf.2.2] at hb; cases hb
  ·refine Le.of_eq ?_
   rw [sval, if_pos hf]; rfl
 ·refine qd (T := tab Tryz.prog) (C := {}) 300 (fun _ => rfl) Tryz.func75 rfl (by kernel_rfl) (by kernel_rfl) (fun c0 rdb => ?_)
  (repeat' ((conv => whnf); first | refine zO ?_ | refine Ob.auto ?_ | refine zC 300 (jp m s hs) ?_ | refine zG 300 (fun hg => jp m s hs) ?_ | refine zX (jp m s hs) ?_ | refine zY (fun hg => jp m s hs) ?_ | refine zE 300 (jp m s hs) ?_ | refine zF 300 (fun hg => jp m s hs) ?_ | (refine zP 300 ?_) | (apply zB <;> intro hb <;> (try simp [-zd] at hb) <;> try (exfalso; omega)) | refine Ob.intro ?_ ?_))
  ·refine Le.of_eq ?_
   rw [sval, if_neg hf]; rfl
  ·exact absurd ⟨hb.1.1, hb.1.2, hb.2⟩ hf
theorem jpq (m : Md) (hm : MOk m) (s : Stt) (hs : SSz s) : Con Tryz.prog 47 [m.av, s.av] (.bool (m.safe.isEmpty || qw m s && qlw m s)) := by
 have hsz := hm.sz
 have hsf := hm.safe
 by_cases hf : qw m s = true
 ·have hso := qpu hm hf
  refine qd (T := tab Tryz.prog) (C := {}) 300 (fun _ => rfl) Tryz.func47 rfl (by kernel_rfl) (by kernel_rfl) (fun c0 rdb => ?_)
  (repeat' ((conv => whnf); first | refine zO ?_ | refine Ob.auto ?_ | refine zC 300 (jp m s hs) ?_ | refine zG 300 (fun hg => jp m s hs) ?_ | refine zX (jp m s hs) ?_ | refine zY (fun hg => jp m s hs) ?_ | refine zC 300 (qfp m (-1) s) ?_ | refine zG 300 (fun hg => qfp m (-1) s) ?_ | refine zX (qfp m (-1) s) ?_ | refine zY (fun hg => qfp m (-1) s) ?_ | refine zE 300 (jp m s hs) ?_ | refine zF 300 (fun hg => jp m s hs) ?_ | refine zE 300 (qfp m (-1) s) ?_ | refine zF 300 (fun hg => qfp m (-1) s) ?_ | (refine zP 300 ?_) | (apply zB <;> intro hb <;> (try simp [-zd] at hb) <;> try (exfalso; omega)) | refine Ob.intro ?_ ?_))
  ·refine Le.of_eq (congrArg AV.bool ?_)
   simp [hb]
  ·rw [hf] at hb; cases hb
  ·rename_i hne
   have hemp : m.safe.isEmpty = false := by simp [hne]
   ((conv => whnf); refine qp (fun _ => rfl) 300 1 (fun i : Nat => [(24, iv i)]) (fun _ => []) (fun i => i ≤ m.safe.length ∧ ∀ j, j < i → qkg m s (m.safe.getD j 0) = true) (fun i => m.safe.length - i) (0) (⟨by omega, fun j hj => absurd hj (Nat.not_lt_zero j)⟩) qa qa (fun _ => rfl) (by kernel_rfl) ?_; (conv => whnf))
   intro i hi
   have hki : i < m.safe.length → _ := fun h => hsf _ (qj m.safe i 0 h)
   (repeat' ((conv => whnf); first | refine zO ?_ | refine Ob.auto ?_ | refine zC 300 (qfq m hm (-1) s hso m.tree.length (m.safe.getD i 0) (hki (by omega)).1 (hki (by omega)).2 (by omega)) ?_ | refine zG 300 (fun hg => qfq m hm (-1) s hso m.tree.length (m.safe.getD i 0) (hki (by omega)).1 (hki (by omega)).2 (by omega)) ?_ | refine zX (qfq m hm (-1) s hso m.tree.length (m.safe.getD i 0) (hki (by omega)).1 (hki (by omega)).2 (by omega)) ?_ | refine zY (fun hg => qfq m hm (-1) s hso m.tree.length (m.safe.getD i 0) (hki (by omega)).1 (hki (by omega)).2 (by omega)) ?_ | refine zE 300 (qfq m hm (-1) s hso m.tree.length (m.safe.getD i 0) (hki (by omega)).1 (hki (by omega)).2 (by omega)) ?_ | refine zF 300 (fun hg => qfq m hm (-1) s hso m.tree.length (m.safe.getD i 0) (hki (by omega)).1 (hki (by omega)).2 (by omega)) ?_ | (refine zP 300 ?_) | (apply zB <;> intro hb <;> (try simp [-zd] at hb) <;> try (exfalso; omega)) | refine Ob.intro ?_ ?_))
   ·refine Le.of_eq (congrArg AV.bool ?_)
    rw [hf, hemp, Bool.false_or, Bool.true_and]
    refine (qoq 0 (j := i) (by omega) ?_).symm
    simp only [qkg, val]
    rcases hb with hb | hb <;> simp [-zd, hb]
   ·((conv => whnf); refine ⟨i + 1, ⟨by omega, qao hi.2 (by simp only [qkg, val]; simp [-zd, hb])⟩, ⟨qa, qa⟩, ⟨qa, qa⟩, ?_⟩; (first | omega | (dsimp only; omega) | skip))
   ·refine Le.of_eq (congrArg AV.bool ?_)
    rw [hf, hemp, Bool.false_or, Bool.true_and]
    exact (qop 0 (fun j hj => hi.2 j (by omega))).symm
 ·refine qd (T := tab Tryz.prog) (C := {}) 300 (fun _ => rfl) Tryz.func47 rfl (by kernel_rfl) (by kernel_rfl) (fun c0 rdb => ?_)
  (repeat' ((conv => whnf); first | refine zO ?_ | refine Ob.auto ?_ | refine zC 300 (jp m s hs) ?_ | refine zG 300 (fun hg => jp m s hs) ?_ | refine zX (jp m s hs) ?_ | refine zY (fun hg => jp m s hs) ?_ | refine zE 300 (jp m s hs) ?_ | refine zF 300 (fun hg => jp m s hs) ?_ | (refine zP 300 ?_) | (apply zB <;> intro hb <;> (try simp [-zd] at hb) <;> try (exfalso; omega)) | refine Ob.intro ?_ ?_))
  ·refine Le.of_eq (congrArg AV.bool ?_)
   simp [hb]
  ·rename_i hne
   refine Le.of_eq (congrArg AV.bool ?_)
   simp [hb, hne]
  ·exact absurd hb hf
end Go.Proofs.YtdoaagphhjggbaaGreat
end
