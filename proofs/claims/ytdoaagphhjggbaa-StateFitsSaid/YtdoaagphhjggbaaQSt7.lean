/- Contracts: what the program's expressions see of a state. -/
import Derived.Test.YtdoaagphhjggbaaQ37
import Derived.Test.YtdoaagphhjggbaaQ2
namespace Go.Proofs.Ytdoaagphhjggbaa
open Go Go.Sx Go.RowKit Go.St
set_option maxRecDepth 100000
set_option maxHeartbeats 2000000

theorem named1_con (v : Vr) (s : List UInt8) : Con Try.prog 55 [.agg v.cells, .rptr [.str s]] (.bool (v.name == s)) := by
  refine con_of_exec (T := tab Try.prog) (C := {}) 300 (fun _ => rfl) Try.func55 rfl (by kernel_rfl) (by kernel_rfl) (fun c0 rdb => ?_)
  (repeat' ((conv => whnf); first | refine zO ?_ | refine Ob.auto ?_ | (refine draw_x (fun _ => rfl) (by kernel_rfl) 300 ?_) | (refine Br.intro (fun hb => ?_) (fun hb => ?_) <;> (try simp [-List.getD_eq_getElem?_getD] at hb) <;> (try (exfalso; omega))) | refine Ob.intro ?_ ?_))
  exact Le.refl _

theorem named2_con (v : Ch) (s : List UInt8) : Con Try.prog 59 [.agg v.cells, .rptr [.str s]] (.bool (v.name == s)) := by
  refine con_of_exec (T := tab Try.prog) (C := {}) 300 (fun _ => rfl) Try.func59 rfl (by kernel_rfl) (by kernel_rfl) (fun c0 rdb => ?_)
  (repeat' ((conv => whnf); first | refine zO ?_ | refine Ob.auto ?_ | (refine draw_x (fun _ => rfl) (by kernel_rfl) 300 ?_) | (refine Br.intro (fun hb => ?_) (fun hb => ?_) <;> (try simp [-List.getD_eq_getElem?_getD] at hb) <;> (try (exfalso; omega))) | refine Ob.intro ?_ ?_))
  exact Le.refl _

theorem indexVar_con (l : List Vr) (n : Nat) (hn : n ≤ l.length) (hl : n ≤ 1000000) (s : List UInt8) : Con Try.prog 56 [.slc 3 n (encL Vr.cells Vr.none l), .fn 55 [.rptr [.str s]]] (iv (Go.St.idx (fun v : Vr => v.name == s) (l.take n))) := by
  have htk : ∀ j : Nat, j < n → (l.take n).getD j Vr.none = l.getD j Vr.none := fun j hj => by
    rw [List.getD_eq_getElem?_getD, List.getElem?_take, if_pos hj, ← List.getD_eq_getElem?_getD]
  have hln : (l.take n).length = n := by rw [List.length_take]; omega
  refine con_of_exec (T := tab Try.prog) (C := {}) 300 (fun _ => rfl) Try.func56 rfl (by kernel_rfl) (by kernel_rfl) (fun c0 rdb => ?_)
  (repeat' ((conv => whnf); first | refine zO ?_ | refine Ob.auto ?_ | (refine draw_x (fun _ => rfl) (by kernel_rfl) 300 ?_) | (refine Br.intro (fun hb => ?_) (fun hb => ?_) <;> (try simp [-List.getD_eq_getElem?_getD] at hb) <;> (try (exfalso; omega))) | refine Ob.intro ?_ ?_))
  ((conv => whnf); refine loop_auto (fun _ => rfl) 300 1 (fun i : Nat => [(8, iv i)]) (fun _ => []) (fun i => i ≤ n ∧ ∀ j, j < i → ((l.getD j Vr.none).name == s) = false) (fun i => n - i) (0) (⟨by omega, fun j hj => absurd hj (Nat.not_lt_zero j)⟩) subtA subtA (fun _ => rfl) (by kernel_rfl) ?_; (conv => whnf))
  intro i hi
  (repeat' ((conv => whnf); first | refine zO ?_ | refine Ob.auto ?_ | refine zC 300 (named1_con _ s) ?_ | refine zG 300 (fun hg => named1_con _ s) ?_ | refine zX (named1_con _ s) ?_ | refine zY (fun hg => named1_con _ s) ?_ | refine zE 300 (named1_con _ s) ?_ | refine zF 300 (fun hg => named1_con _ s) ?_ | (refine draw_x (fun _ => rfl) (by kernel_rfl) 300 ?_) | (refine Br.intro (fun hb => ?_) (fun hb => ?_) <;> (try simp [-List.getD_eq_getElem?_getD] at hb) <;> (try (exfalso; omega))) | refine Ob.intro ?_ ?_))
  · refine Le.of_eq (congrArg (AV.int _) ?_)
    exact (idx_at _ (l.take n) Vr.none i (by omega) (by rw [htk i (by omega)]; exact beq_iff_eq.2 hb) (fun j hj => by rw [htk j (by omega)]; exact hi.2 j hj)).symm
  · ((conv => whnf); refine ⟨i + 1, ⟨by omega, upto_succ hi.2 (beq_eq_false_iff_ne.2 hb)⟩, ⟨subtA, subtA⟩, ⟨subtA, subtA⟩, ?_⟩; (first | omega | (dsimp only; omega) | skip))
  · refine Le.of_eq (congrArg (AV.int _) ?_)
    exact (idx_none _ (l.take n) Vr.none (fun j hj => by rw [htk j (by omega)]; exact hi.2 j (by omega))).symm

theorem indexChan_con (l : List Ch) (hl : l.length ≤ 1000000) (s : List UInt8) : Con Try.prog 60 [slcL Ch.cells Ch.none 5 l, .fn 59 [.rptr [.str s]]] (iv (Go.St.idx (fun v : Ch => v.name == s) l)) := by
  refine con_of_exec (T := tab Try.prog) (C := {}) 300 (fun _ => rfl) Try.func60 rfl (by kernel_rfl) (by kernel_rfl) (fun c0 rdb => ?_)
  (repeat' ((conv => whnf); first | refine zO ?_ | refine Ob.auto ?_ | (refine draw_x (fun _ => rfl) (by kernel_rfl) 300 ?_) | (refine Br.intro (fun hb => ?_) (fun hb => ?_) <;> (try simp [-List.getD_eq_getElem?_getD] at hb) <;> (try (exfalso; omega))) | refine Ob.intro ?_ ?_))
  ((conv => whnf); refine loop_auto (fun _ => rfl) 300 1 (fun i : Nat => [(8, iv i)]) (fun _ => []) (fun i => i ≤ l.length ∧ ∀ j, j < i → ((l.getD j Ch.none).name == s) = false) (fun i => l.length - i) (0) (⟨by omega, fun j hj => absurd hj (Nat.not_lt_zero j)⟩) subtA subtA (fun _ => rfl) (by kernel_rfl) ?_; (conv => whnf))
  intro i hi
  (repeat' ((conv => whnf); first | refine zO ?_ | refine Ob.auto ?_ | refine zC 300 (named2_con _ s) ?_ | refine zG 300 (fun hg => named2_con _ s) ?_ | refine zX (named2_con _ s) ?_ | refine zY (fun hg => named2_con _ s) ?_ | refine zE 300 (named2_con _ s) ?_ | refine zF 300 (fun hg => named2_con _ s) ?_ | (refine draw_x (fun _ => rfl) (by kernel_rfl) 300 ?_) | (refine Br.intro (fun hb => ?_) (fun hb => ?_) <;> (try simp [-List.getD_eq_getElem?_getD] at hb) <;> (try (exfalso; omega))) | refine Ob.intro ?_ ?_))
  · refine Le.of_eq (congrArg (AV.int _) ?_)
    exact (idx_at (fun v : Ch => v.name == s) l Ch.none i (by omega) (beq_iff_eq.2 hb) hi.2).symm
  · ((conv => whnf); refine ⟨i + 1, ⟨by omega, upto_succ hi.2 (beq_eq_false_iff_ne.2 hb)⟩, ⟨subtA, subtA⟩, ⟨subtA, subtA⟩, ?_⟩; (first | omega | (dsimp only; omega) | skip))
  · refine Le.of_eq (congrArg (AV.int _) ?_)
    exact (idx_none _ l Ch.none (fun j hj => hi.2 j (by omega))).symm

theorem indexStr_con (l : List (List UInt8)) (hl : l.length ≤ 1000000) (s : List UInt8) : Con Try.prog 57 [strs l, .str s] (iv (Go.St.idx (· == s) l)) := by
  refine con_of_exec (T := tab Try.prog) (C := {}) 300 (fun _ => rfl) Try.func57 rfl (by kernel_rfl) (by kernel_rfl) (fun c0 rdb => ?_)
  (repeat' ((conv => whnf); first | refine zO ?_ | refine Ob.auto ?_ | (refine draw_x (fun _ => rfl) (by kernel_rfl) 300 ?_) | (refine Br.intro (fun hb => ?_) (fun hb => ?_) <;> (try simp [-List.getD_eq_getElem?_getD] at hb) <;> (try (exfalso; omega))) | refine Ob.intro ?_ ?_))
  ((conv => whnf); refine loop_auto (fun _ => rfl) 300 1 (fun i : Nat => [(8, iv i)]) (fun _ => []) (fun i => i ≤ l.length ∧ ∀ j, j < i → (l.getD j [] == s) = false) (fun i => l.length - i) (0) (⟨by omega, fun j hj => absurd hj (Nat.not_lt_zero j)⟩) subtA subtA (fun _ => rfl) (by kernel_rfl) ?_; (conv => whnf))
  intro i hi
  (repeat' ((conv => whnf); first | refine zO ?_ | refine Ob.auto ?_ | (refine draw_x (fun _ => rfl) (by kernel_rfl) 300 ?_) | (refine Br.intro (fun hb => ?_) (fun hb => ?_) <;> (try simp [-List.getD_eq_getElem?_getD] at hb) <;> (try (exfalso; omega))) | refine Ob.intro ?_ ?_))
  · refine Le.of_eq (congrArg (AV.int _) ?_)
    exact (idx_at (· == s) l [] i (by omega) (beq_iff_eq.2 hb.symm) hi.2).symm
  · ((conv => whnf); refine ⟨i + 1, ⟨by omega, upto_succ hi.2 (beq_eq_false_iff_ne.2 (Ne.symm hb))⟩, ⟨subtA, subtA⟩, ⟨subtA, subtA⟩, ?_⟩; (first | omega | (dsimp only; omega) | skip))
  · refine Le.of_eq (congrArg (AV.int _) ?_)
    exact (idx_none _ l [] (fun j hj => hi.2 j (by omega))).symm

def varV (m : Md) (p : Int) (s : Stt) (n : List UInt8) : Int × Bool := if varN m p n < 0 then (0, false) else (s.vars.getD (varN m p n).toNat 0, true)
def lenV (m : Md) (s : Stt) (n : List UInt8) : Int × Bool := if Go.St.idx (fun c : Ch => c.name == n) m.chans < 0 then (0, false) else ((s.chans.getD (Go.St.idx (fun c : Ch => c.name == n) m.chans).toNat []).length, true)

theorem look1_con (m : Md) (hm : MOk m) (p : Int) (s : Stt) (hs : SOk m s) (n : List UInt8) : Con Try.prog 54 [.str n, .rptr [iv p], .rptr m.cells, .rptr s.cells] (pairV (varV m p s n)) := by
  have hg := hm.glob
  have hsz := hm.sz
  have hvl := hs.vl
  have hcl := hs.cl
  have hvn := varN_lt hm p n
  by_cases hp : 0 ≤ p ∧ p < m.procs.length
  · have hq := hm.procs _ (getD_mem m.procs p.toNat Pr.none (by omega))
    have hq2 := hm.psz _ (getD_mem m.procs p.toNat Pr.none (by omega))
    have hv : varN m p n = _ := if_pos hp
    have hix := idx_lt (· == n) (m.procs.getD p.toNat Pr.none).names
    have hqv := fun (h : 0 ≤ Go.St.idx (· == n) (m.procs.getD p.toNat Pr.none).names) => hq.2 _ (getD_mem (m.procs.getD p.toNat Pr.none).vars (Go.St.idx (· == n) (m.procs.getD p.toNat Pr.none).names).toNat 0 (by omega))
    refine con_of_exec (T := tab Try.prog) (C := {}) 300 (fun _ => rfl) Try.func54 rfl (by kernel_rfl) (by kernel_rfl) (fun c0 rdb => ?_)
    (repeat' ((conv => whnf); first | refine zO ?_ | refine Ob.auto ?_ | (refine Ob.intro (by (first | exact ⟨by omega, by omega⟩ | exact ⟨by have := hqv (by omega); omega, by have := hqv (by omega); omega⟩)) ?_) | refine zC 300 (indexStr_con (m.procs.getD p.toNat Pr.none).names (by omega) n) ?_ | refine zG 300 (fun hg => indexStr_con (m.procs.getD p.toNat Pr.none).names (by omega) n) ?_ | refine zX (indexStr_con (m.procs.getD p.toNat Pr.none).names (by omega) n) ?_ | refine zY (fun hg => indexStr_con (m.procs.getD p.toNat Pr.none).names (by omega) n) ?_ | refine zE 300 (indexStr_con (m.procs.getD p.toNat Pr.none).names (by omega) n) ?_ | refine zF 300 (fun hg => indexStr_con (m.procs.getD p.toNat Pr.none).names (by omega) n) ?_ | (refine draw_x (fun _ => rfl) (by kernel_rfl) 300 ?_) | (refine Br.intro (fun hb => ?_) (fun hb => ?_) <;> (try simp [-List.getD_eq_getElem?_getD] at hb) <;> (try (exfalso; omega))) | refine Ob.intro ?_ ?_))
    · have := hqv (by omega)
      rw [if_neg (by omega)] at hv
      refine Le.of_eq ?_
      rw [varV, if_neg (by omega), hv]; rfl
    · rw [if_pos (by omega)] at hv
      refine Le.of_eq ?_
      rw [varV, if_pos (by omega)]; rfl
  · have hv : varN m p n = _ := if_neg hp
    refine con_of_exec (T := tab Try.prog) (C := {}) 300 (fun _ => rfl) Try.func54 rfl (by kernel_rfl) (by kernel_rfl) (fun c0 rdb => ?_)
    (repeat' ((conv => whnf); first | refine zO ?_ | refine Ob.auto ?_ | (refine Ob.intro (by (exact ⟨by omega, by omega⟩)) ?_) | refine zC 300 (indexVar_con m.vars m.globals.toNat (by omega) (by omega) n) ?_ | refine zG 300 (fun hg => indexVar_con m.vars m.globals.toNat (by omega) (by omega) n) ?_ | refine zX (indexVar_con m.vars m.globals.toNat (by omega) (by omega) n) ?_ | refine zY (fun hg => indexVar_con m.vars m.globals.toNat (by omega) (by omega) n) ?_ | refine zE 300 (indexVar_con m.vars m.globals.toNat (by omega) (by omega) n) ?_ | refine zF 300 (fun hg => indexVar_con m.vars m.globals.toNat (by omega) (by omega) n) ?_ | (refine draw_x (fun _ => rfl) (by kernel_rfl) 300 ?_) | (refine Br.intro (fun hb => ?_) (fun hb => ?_) <;> (try simp [-List.getD_eq_getElem?_getD] at hb) <;> (try (exfalso; omega))) | refine Ob.intro ?_ ?_))
    · refine Le.of_eq ?_
      rw [varV, if_neg (by omega), hv]; rfl
    · refine Le.of_eq ?_
      rw [varV, if_pos (by omega)]; rfl

theorem look2_con (m : Md) (hm : MOk m) (s : Stt) (hs : SOk m s) (n : List UInt8) : Con Try.prog 58 [.str n, .rptr m.cells, .rptr s.cells] (pairV (lenV m s n)) := by
  have hsz := hm.sz
  have hcl := hs.cl
  have hi := idx_lt (fun c : Ch => c.name == n) m.chans
  refine con_of_exec (T := tab Try.prog) (C := {}) 300 (fun _ => rfl) Try.func58 rfl (by kernel_rfl) (by kernel_rfl) (fun c0 rdb => ?_)
  (repeat' ((conv => whnf); first | refine zO ?_ | refine Ob.auto ?_ | (refine Ob.intro (by (exact ⟨by omega, by omega⟩)) ?_) | refine zC 300 (indexChan_con m.chans (by omega) n) ?_ | refine zG 300 (fun hg => indexChan_con m.chans (by omega) n) ?_ | refine zX (indexChan_con m.chans (by omega) n) ?_ | refine zY (fun hg => indexChan_con m.chans (by omega) n) ?_ | refine zE 300 (indexChan_con m.chans (by omega) n) ?_ | refine zF 300 (fun hg => indexChan_con m.chans (by omega) n) ?_ | (refine draw_x (fun _ => rfl) (by kernel_rfl) 300 ?_) | (refine Br.intro (fun hb => ?_) (fun hb => ?_) <;> (try simp [-List.getD_eq_getElem?_getD] at hb) <;> (try (exfalso; omega))) | refine Ob.intro ?_ ?_))
  · refine Le.of_eq ?_
    rw [lenV, if_neg (by omega)]; rfl
  · refine Le.of_eq ?_
    rw [lenV, if_pos (by omega)]; rfl

def viewV (m : Md) (p : Int) (s : Stt) : AV := .agg [treeV m.tree, .fn 54 [.rptr [iv p], .rptr m.cells, .rptr s.cells], .fn 58 [.rptr m.cells, .rptr s.cells]]

theorem look_con (m : Md) (p : Int) (s : Stt) : Con Try.prog 32 [m.av, iv p, s.av] (viewV m p s) := by
  refine con_of_exec (T := tab Try.prog) (C := {}) 300 (fun _ => rfl) Try.func32 rfl (by kernel_rfl) (by kernel_rfl) (fun c0 rdb => ?_)
  (repeat' ((conv => whnf); first | refine zO ?_ | refine Ob.auto ?_ | (refine draw_x (fun _ => rfl) (by kernel_rfl) 300 ?_) | (refine Br.intro (fun hb => ?_) (fun hb => ?_) <;> (try simp [-List.getD_eq_getElem?_getD] at hb) <;> (try (exfalso; omega))) | refine Ob.intro ?_ ?_))
  exact Le.of_eq (by kernel_rfl)

theorem value_con (m : Md) (hm : MOk m) (p : Int) (s : Stt) (hs : SOk m s) : ∀ (n : Nat) (k : Int), 0 ≤ k → k < m.tree.length → m.tree.length - k.toNat ≤ n → Con Try.prog 33 [viewV m p s, iv k] (pairV (valN m p s n k)) := by
  intro n
  induction n with
  | zero => intro k h0 h1 h2; omega
  | succ n ih =>
    intro k h0 h1 h2
    have hnd := hm.tree k.toNat (by omega)
    have h17 := hnd.num
    have h18 := hnd.word
    have h20 := hnd.un
    have h22 := hnd.bin
    have hsz := hm.sz
    have hvb := valN_bound hm hs p n
    have hvl := hs.vl
    have hcl := hs.cl
    have hk0 : (m.tree.getD k.toNat Nd.none).kind = 20 ∨ (m.tree.getD k.toNat Nd.none).kind = 21 ∨ (m.tree.getD k.toNat Nd.none).kind = 22 → 0 ≤ (m.tree.getD k.toNat Nd.none).kids.getD 0 0 ∧ (m.tree.getD k.toNat Nd.none).kids.getD 0 0 < m.tree.length ∧ m.tree.length - ((m.tree.getD k.toNat Nd.none).kids.getD 0 0).toNat ≤ n := by omega
    have hk1 : (m.tree.getD k.toNat Nd.none).kind = 22 → 0 ≤ (m.tree.getD k.toNat Nd.none).kids.getD 1 0 ∧ (m.tree.getD k.toNat Nd.none).kids.getD 1 0 < m.tree.length ∧ m.tree.length - ((m.tree.getD k.toNat Nd.none).kids.getD 1 0).toNat ≤ n := by omega
    have hb0 := hvb ((m.tree.getD k.toNat Nd.none).kids.getD 0 0)
    have hb1 := hvb ((m.tree.getD k.toNat Nd.none).kids.getD 1 0)
    refine con_of_exec (T := tab Try.prog) (C := {}) 600 (fun _ => rfl) Try.func33 rfl (by kernel_rfl) (by kernel_rfl) (fun c0 rdb => ?_)
    (repeat' ((conv => whnf); first | refine zO ?_ | refine Ob.auto ?_ | (refine Ob.intro (by (first | exact ⟨by omega, by omega⟩ | exact inR_i64 (by omega) (by omega))) ?_) | refine zC 600 (trim_con _ _) ?_ | refine zG 600 (fun hg => trim_con _ _) ?_ | refine zX (trim_con _ _) ?_ | refine zY (fun hg => trim_con _ _) ?_ | refine zC 600 (look1_con m hm p s hs _) ?_ | refine zG 600 (fun hg => look1_con m hm p s hs _) ?_ | refine zX (look1_con m hm p s hs _) ?_ | refine zY (fun hg => look1_con m hm p s hs _) ?_ | refine zC 600 (look2_con m hm s hs _) ?_ | refine zG 600 (fun hg => look2_con m hm s hs _) ?_ | refine zX (look2_con m hm s hs _) ?_ | refine zY (fun hg => look2_con m hm s hs _) ?_ | refine zC 600 (number_con _) ?_ | refine zG 600 (fun hg => number_con _) ?_ | refine zX (number_con _) ?_ | refine zY (fun hg => number_con _) ?_ | refine zC 600 (apply_con _ _ _ (by omega) (by omega)) ?_ | refine zG 600 (fun hg => apply_con _ _ _ (by omega) (by omega)) ?_ | refine zX (apply_con _ _ _ (by omega) (by omega)) ?_ | refine zY (fun hg => apply_con _ _ _ (by omega) (by omega)) ?_ | refine zC 600 (ih ((m.tree.getD k.toNat Nd.none).kids.getD 0 0) (hk0 (by omega)).1 (hk0 (by omega)).2.1 (hk0 (by omega)).2.2) ?_ | refine zG 600 (fun hg => ih ((m.tree.getD k.toNat Nd.none).kids.getD 0 0) (hk0 (by omega)).1 (hk0 (by omega)).2.1 (hk0 (by omega)).2.2) ?_ | refine zX (ih ((m.tree.getD k.toNat Nd.none).kids.getD 0 0) (hk0 (by omega)).1 (hk0 (by omega)).2.1 (hk0 (by omega)).2.2) ?_ | refine zY (fun hg => ih ((m.tree.getD k.toNat Nd.none).kids.getD 0 0) (hk0 (by omega)).1 (hk0 (by omega)).2.1 (hk0 (by omega)).2.2) ?_ | refine zC 600 (ih ((m.tree.getD k.toNat Nd.none).kids.getD 1 0) (hk1 (by omega)).1 (hk1 (by omega)).2.1 (hk1 (by omega)).2.2) ?_ | refine zG 600 (fun hg => ih ((m.tree.getD k.toNat Nd.none).kids.getD 1 0) (hk1 (by omega)).1 (hk1 (by omega)).2.1 (hk1 (by omega)).2.2) ?_ | refine zX (ih ((m.tree.getD k.toNat Nd.none).kids.getD 1 0) (hk1 (by omega)).1 (hk1 (by omega)).2.1 (hk1 (by omega)).2.2) ?_ | refine zY (fun hg => ih ((m.tree.getD k.toNat Nd.none).kids.getD 1 0) (hk1 (by omega)).1 (hk1 (by omega)).2.1 (hk1 (by omega)).2.2) ?_ | refine zE 600 (trim_con _ _) ?_ | refine zF 600 (fun hg => trim_con _ _) ?_ | refine zE 600 (look1_con m hm p s hs _) ?_ | refine zF 600 (fun hg => look1_con m hm p s hs _) ?_ | refine zE 600 (look2_con m hm s hs _) ?_ | refine zF 600 (fun hg => look2_con m hm s hs _) ?_ | refine zE 600 (number_con _) ?_ | refine zF 600 (fun hg => number_con _) ?_ | refine zE 600 (apply_con _ _ _ (by omega) (by omega)) ?_ | refine zF 600 (fun hg => apply_con _ _ _ (by omega) (by omega)) ?_ | refine zE 600 (ih ((m.tree.getD k.toNat Nd.none).kids.getD 0 0) (hk0 (by omega)).1 (hk0 (by omega)).2.1 (hk0 (by omega)).2.2) ?_ | refine zF 600 (fun hg => ih ((m.tree.getD k.toNat Nd.none).kids.getD 0 0) (hk0 (by omega)).1 (hk0 (by omega)).2.1 (hk0 (by omega)).2.2) ?_ | refine zE 600 (ih ((m.tree.getD k.toNat Nd.none).kids.getD 1 0) (hk1 (by omega)).1 (hk1 (by omega)).2.1 (hk1 (by omega)).2.2) ?_ | refine zF 600 (fun hg => ih ((m.tree.getD k.toNat Nd.none).kids.getD 1 0) (hk1 (by omega)).1 (hk1 (by omega)).2.1 (hk1 (by omega)).2.2) ?_ | (refine draw_x (fun _ => rfl) (by kernel_rfl) 600 ?_) | (refine Br.intro (fun hb => ?_) (fun hb => ?_) <;> (try simp [-List.getD_eq_getElem?_getD] at hb) <;> (try (exfalso; omega))) | refine Ob.intro ?_ ?_))
    · refine Le.of_eq ?_
      rw [valN, if_pos (by assumption)]; rfl
    · refine Le.of_eq ?_
      rw [valN, if_neg (by assumption), if_pos (by assumption)]; rfl
    · refine Le.of_eq ?_
      rw [valN, if_neg (by assumption), if_neg (by assumption), if_pos (by assumption)]; rfl
    · refine Le.of_eq ?_
      rw [valN, if_neg (by assumption), if_neg (by assumption), if_neg (by assumption), if_pos (by assumption)]; rfl
    · refine Le.of_eq ?_
      rw [valN_21 m p s n k (by assumption), hb]; rfl
    · refine Le.of_eq ?_
      rw [valN_21 m p s n k (by assumption), hb, Bool.true_and]; rfl
    · refine Le.of_eq ?_
      rw [valN_22 m p s n k (by assumption), binF, if_neg (fun h => by rcases hb with hb | hb <;> rw [hb] at h <;> simp at h)]; rfl
    · refine Le.of_eq ?_
      rw [valN_22 m p s n k (by assumption), binF, if_pos hb]; rfl
    · refine Le.of_eq ?_
      rw [valN, if_neg (by assumption), if_neg (by assumption), if_neg (by assumption), if_neg (by assumption), if_neg (by assumption), if_neg (by assumption)]; rfl


end Go.Proofs.Ytdoaagphhjggbaa
