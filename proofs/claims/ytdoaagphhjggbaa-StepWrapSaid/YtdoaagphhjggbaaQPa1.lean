/- Contracts of the document's parser: tokens. -/
import Derived.Test.YtdoaagphhjggbaaQ7
import Derived.Test.YtdoaagphhjggbaaQLexQ2
import Derived.Test.YtdoaagphhjggbaaQ2
namespace Go.Proofs.Ytdoaagphhjggbaa
open Go Go.Sx Go.RowKit Go.St Pa
set_option maxRecDepth 100000
set_option maxHeartbeats 2000000

section
variable {ts : List Lx.Tok} {p : Ps}

abbrev pso (ts : List Lx.Tok) (p : Ps) : SO := .box 86 (p.cells ts)

theorem qo : Con Try.prog 70 [.rptr (p.cells ts)] (.bool (p.err == 0)) := by
 refine qi (T := tab Try.prog) (C := {}) 300 (fun _ => rfl) Try.func70 rfl (by kernel_rfl) (by kernel_rfl) (fun c0 rdb => ?_)
 (repeat' ((conv => whnf); first | refine zA ?_ | refine zO ?_ | refine Ob.auto ?_ | refine zD 300 ?_ | (apply zB <;> intro hb <;> (try simp [-List.getD_eq_getElem?_getD] at hb) <;> try (exfalso; omega)) | refine Ob.intro ?_ ?_))
 exact Le.refl _

theorem jl (h : AtOk ts p) : Con Try.prog 71 [.rptr (p.cells ts)] (.agg (Lx.encTok (tk ts p))) := by
 have h0 := h.lo
 have h1 := h.hi
 refine qi (T := tab Try.prog) (C := {}) 300 (fun _ => rfl) Try.func71 rfl (by kernel_rfl) (by kernel_rfl) (fun c0 rdb => ?_)
 (repeat' ((conv => whnf); first | refine zA ?_ | refine zO ?_ | refine Ob.auto ?_ | (refine Ob.intro (by (exact ⟨by omega, by omega⟩)) ?_) | refine zD 300 ?_ | (apply zB <;> intro hb <;> (try simp [-List.getD_eq_getElem?_getD] at hb) <;> try (exfalso; omega)) | refine Ob.intro ?_ ?_))
 exact Le.refl _

theorem qx (h : AtOk ts p) (s : List UInt8) : Con Try.prog 90 [.rptr (p.cells ts), .str s] (.bool (sees ts p s)) := by
 refine qi (T := tab Try.prog) (C := {}) 300 (fun _ => rfl) Try.func90 rfl (by kernel_rfl) (by kernel_rfl) (fun c0 rdb => ?_)
 (repeat' ((conv => whnf); first | refine zA ?_ | refine zO ?_ | refine Ob.auto ?_ | (refine Ob.intro (by (exact ⟨by omega, by omega⟩)) ?_) | refine zC 300 (jl h) ?_ | refine zG 300 (fun hg => jl h) ?_ | (refine CallY.con (jl h) (by rfl) leA ?_) | (refine CallZ.con (fun hg => jl h) qe (by rfl) ?_) | refine zC 300 (qo) ?_ | refine zG 300 (fun hg => qo) ?_ | (refine CallY.con (qo) (by rfl) leA ?_) | (refine CallZ.con (fun hg => qo) qe (by rfl) ?_) | refine zC 300 (qex _) ?_ | refine zG 300 (fun hg => qex _) ?_ | (refine CallY.con (qex _) (by rfl) leA ?_) | (refine CallZ.con (fun hg => qex _) qe (by rfl) ?_) | refine zE 300 (jl h) ?_ | refine zF 300 (fun hg => jl h) ?_ | refine zE 300 (qo) ?_ | refine zF 300 (fun hg => qo) ?_ | refine zE 300 (qex _) ?_ | refine zF 300 (fun hg => qex _) ?_ | refine zD 300 ?_ | (apply zB <;> intro hb <;> (try simp [-List.getD_eq_getElem?_getD] at hb) <;> try (exfalso; omega)) | refine Ob.intro ?_ ?_))
 refine Le.of_eq (congrArg AV.bool ?_)
 unfold sees qtx
 rw [Bool.and_assoc]

theorem qrb (h : AtOk ts p) (e : Int) : Trip Try.prog 110 [.ptr 0 0, iv e] [pso ts p] (.tup []) [(0, pso ts (bad ts p e))] 1 := by
 refine qdk (T := tab Try.prog) (C := {}) 300 (fun _ => rfl) Try.func110 rfl (by kernel_rfl) (by kernel_rfl) (fun c0 rdb mpb => ?_)
 (repeat' ((conv => whnf); first | refine zA ?_ | refine zO ?_ | refine Ob.auto ?_ | (refine Ob.intro (by (exact ⟨by omega, by omega⟩)) ?_) | refine zC 300 (jl h) ?_ | refine zG 300 (fun hg => jl h) ?_ | (refine CallY.con (jl h) (by rfl) leA ?_) | (refine CallZ.con (fun hg => jl h) qe (by rfl) ?_) | refine zC 300 (qo) ?_ | refine zG 300 (fun hg => qo) ?_ | (refine CallY.con (qo) (by rfl) leA ?_) | (refine CallZ.con (fun hg => qo) qe (by rfl) ?_) | refine zE 300 (jl h) ?_ | refine zF 300 (fun hg => jl h) ?_ | refine zE 300 (qo) ?_ | refine zF 300 (fun hg => qo) ?_ | refine zD 300 ?_ | (apply zB <;> intro hb <;> (try simp [-List.getD_eq_getElem?_getD] at hb) <;> try (exfalso; omega)) | refine Ob.intro ?_ ?_))
 ·have e1 : bad ts p e = { p with err := e, fat := (tk ts p).pos } := if_pos hb
  rw [e1]
  exact ⟨Le.refl _, qa⟩
 ·have e1 : bad ts p e = p := if_neg hb
  rw [e1]
  exact ⟨Le.refl _, qa⟩

theorem qaw (ht : ToksOk ts) (h : AtOk ts p) (s : List UInt8) : Trip Try.prog 93 [.ptr 0 0, .str s] [pso ts p] (.bool (sees ts p s)) [(0, pso ts (took ts p s))] 1 := by
 have h0 := h.lo
 have h1 := h.hi
 have h2 := ht.len
 refine qdk (T := tab Try.prog) (C := {}) 300 (fun _ => rfl) Try.func93 rfl (by kernel_rfl) (by kernel_rfl) (fun c0 rdb mpb => ?_)
 (repeat' ((conv => whnf); first | refine zA ?_ | refine zO ?_ | refine Ob.auto ?_ | (refine Ob.intro (by (exact jg (by omega) (by omega))) ?_) | refine zC 300 (qx h s) ?_ | refine zG 300 (fun hg => qx h s) ?_ | (refine CallY.con (qx h s) (by rfl) leA ?_) | (refine CallZ.con (fun hg => qx h s) qe (by rfl) ?_) | refine zE 300 (qx h s) ?_ | refine zF 300 (fun hg => qx h s) ?_ | refine zD 300 ?_ | (apply zB <;> intro hb <;> (try simp [-List.getD_eq_getElem?_getD] at hb) <;> try (exfalso; omega)) | refine Ob.intro ?_ ?_))
 ·rw [hb, took, if_neg (by rw [hb]; decide)]
  exact ⟨Le.refl _, qa⟩
 ·rw [hb, took, if_pos hb]
  exact ⟨Le.refl _, qa⟩

theorem qba (ht : ToksOk ts) (h : AtOk ts p) (s : List UInt8) : Trip Try.prog 95 [.ptr 0 0, .str s] [pso ts p] (.tup []) [(0, pso ts (must ts p s))] 1 := by
 refine qdk (T := tab Try.prog) (C := {}) 300 (fun _ => rfl) Try.func95 rfl (by kernel_rfl) (by kernel_rfl) (fun c0 rdb mpb => ?_)
 (repeat' ((conv => whnf); first | refine zA ?_ | refine zO ?_ | refine Ob.auto ?_ | refine zD 300 ?_ | (apply zB <;> intro hb <;> (try simp [-List.getD_eq_getElem?_getD] at hb) <;> try (exfalso; omega)) | refine Ob.intro ?_ ?_))
 ((conv => whnf); refine zT 300 [0] (qaw ht h s) qa ?_)
 (repeat' ((conv => whnf); first | refine zA ?_ | refine zO ?_ | refine Ob.auto ?_ | refine zD 300 ?_ | (apply zB <;> intro hb <;> (try simp [-List.getD_eq_getElem?_getD] at hb) <;> try (exfalso; omega)) | refine Ob.intro ?_ ?_))
 ·have e1 : took ts p s = p := if_neg (by rw [hb]; decide)
  have e2 : must ts p s = bad ts p 11 := if_neg (by rw [hb]; decide)
  rw [e1]
  ((conv => whnf); refine zT 300 [0] (qrb h 11) qa ?_)
  (repeat' ((conv => whnf); first | refine zA ?_ | refine zO ?_ | refine Ob.auto ?_ | refine zD 300 ?_ | (apply zB <;> intro hb <;> (try simp [-List.getD_eq_getElem?_getD] at hb) <;> try (exfalso; omega)) | refine Ob.intro ?_ ?_))
  rw [e2]
  exact ⟨Le.refl _, qa⟩
 ·have e1 : took ts p s = adv p := if_pos hb
  have e2 : must ts p s = adv p := if_pos hb
  rw [e1, e2]
  exact ⟨Le.refl _, qa⟩

theorem qhj (ht : ToksOk ts) (h : AtOk ts p) : Trip Try.prog 94 [.ptr 0 0] [pso ts p] (.str (qaf ts p)) [(0, pso ts (qf ts p))] 1 := by
 have h0 := h.lo
 have h1 := h.hi
 have h2 := ht.len
 refine qdk (T := tab Try.prog) (C := {}) 300 (fun _ => rfl) Try.func94 rfl (by kernel_rfl) (by kernel_rfl) (fun c0 rdb mpb => ?_)
 (repeat' ((conv => whnf); first | refine zA ?_ | refine zO ?_ | refine Ob.auto ?_ | (refine Ob.intro (by (exact jg (by omega) (by omega))) ?_) | refine zC 300 (jl h) ?_ | refine zG 300 (fun hg => jl h) ?_ | (refine CallY.con (jl h) (by rfl) leA ?_) | (refine CallZ.con (fun hg => jl h) qe (by rfl) ?_) | refine zC 300 (qli _) ?_ | refine zG 300 (fun hg => qli _) ?_ | (refine CallY.con (qli _) (by rfl) leA ?_) | (refine CallZ.con (fun hg => qli _) qe (by rfl) ?_) | refine zC 300 (qo) ?_ | refine zG 300 (fun hg => qo) ?_ | (refine CallY.con (qo) (by rfl) leA ?_) | (refine CallZ.con (fun hg => qo) qe (by rfl) ?_) | refine zE 300 (jl h) ?_ | refine zF 300 (fun hg => jl h) ?_ | refine zE 300 (qli _) ?_ | refine zF 300 (fun hg => qli _) ?_ | refine zE 300 (qo) ?_ | refine zF 300 (fun hg => qo) ?_ | refine zD 300 ?_ | (apply zB <;> intro hb <;> (try simp [-List.getD_eq_getElem?_getD] at hb) <;> try (exfalso; omega)) | refine Ob.intro ?_ ?_))
 ·have e : qhh ts p = false := by
   unfold qhh
   rcases hb with (hb | hb) | hb <;> simp [hb]
  ((conv => whnf); refine zT 300 [0] (qrb h 11) qa ?_)
  (repeat' ((conv => whnf); first | refine zA ?_ | refine zO ?_ | refine Ob.auto ?_ | refine zD 300 ?_ | (apply zB <;> intro hb <;> (try simp [-List.getD_eq_getElem?_getD] at hb) <;> try (exfalso; omega)) | refine Ob.intro ?_ ?_))
  rw [qaf, qf, if_neg (by rw [e]; decide), if_neg (by rw [e]; decide)]
  exact ⟨Le.refl _, qa⟩
 ·have e : qhh ts p = true := by
   unfold qhh
   simp [hb.1.1, hb.1.2, hb.2]
  rw [qaf, qf, if_pos e, if_pos e]
  exact ⟨Le.refl _, qa⟩

theorem qjv (ht : ToksOk ts) (h : AtOk ts p) : Trip Try.prog 96 [.ptr 0 0] [pso ts p] (iv (numN ts p)) [(0, pso ts (numP ts p))] 1 := by
 have h0 := h.lo
 have h1 := h.hi
 have h2 := ht.len
 refine qdk (T := tab Try.prog) (C := {}) 300 (fun _ => rfl) Try.func96 rfl (by kernel_rfl) (by kernel_rfl) (fun c0 rdb mpb => ?_)
 (repeat' ((conv => whnf); first | refine zA ?_ | refine zO ?_ | refine Ob.auto ?_ | (refine Ob.intro (by (exact jg (by omega) (by omega))) ?_) | refine zC 300 (jl h) ?_ | refine zG 300 (fun hg => jl h) ?_ | (refine CallY.con (jl h) (by rfl) leA ?_) | (refine CallZ.con (fun hg => jl h) qe (by rfl) ?_) | refine zC 300 (qo) ?_ | refine zG 300 (fun hg => qo) ?_ | (refine CallY.con (qo) (by rfl) leA ?_) | (refine CallZ.con (fun hg => qo) qe (by rfl) ?_) | refine zE 300 (jl h) ?_ | refine zF 300 (fun hg => jl h) ?_ | refine zE 300 (qo) ?_ | refine zF 300 (fun hg => qo) ?_ | refine zD 300 ?_ | (apply zB <;> intro hb <;> (try simp [-List.getD_eq_getElem?_getD] at hb) <;> try (exfalso; omega)) | refine Ob.intro ?_ ?_))
 ·have e : qgk ts p = false := by
   unfold qgk
   rcases hb with hb | hb <;> simp [hb]
  ((conv => whnf); refine zT 300 [0] (qrb h 11) qa ?_)
  (repeat' ((conv => whnf); first | refine zA ?_ | refine zO ?_ | refine Ob.auto ?_ | refine zD 300 ?_ | (apply zB <;> intro hb <;> (try simp [-List.getD_eq_getElem?_getD] at hb) <;> try (exfalso; omega)) | refine Ob.intro ?_ ?_))
  rw [numN, numP, if_neg (by rw [e]; decide), if_neg (by rw [e]; decide)]
  exact ⟨Le.refl _, qa⟩
 ·have e : qgk ts p = true := by
   unfold qgk
   simp [hb.1, hb.2]
  have hnum := ht.num _ (qzl h) hb.1
  have hdg := qty hnum.2
  rw [numN, numP, if_pos e, if_pos e]
  ((conv => whnf); refine jf (fun _ => rfl) 300 1 (fun i : Nat => [(4, iv (qgl ((tk ts p).s.take i))), (5, iv i)]) (fun _ => []) (fun i => i ≤ (tk ts p).s.length) (fun i => (tk ts p).s.length - i) (0) (by omega) qa qa (fun _ => rfl) (by kernel_rfl) ?_; (conv => whnf))
  intro i hi
  have h3 := hdg i hi
  have h6 : (10 : Int) ^ i ≤ 10 ^ 6 := by exact_mod_cast Nat.pow_le_pow_right (show 0 < 10 by decide) (show i ≤ 6 by omega)
  have hby : i < (tk ts p).s.length → qbc (tk ts p).s (i : Int) = (((tk ts p).s[i]?.getD 0).toNat : Int) ∧ 48 ≤ ((tk ts p).s[i]?.getD 0).toNat ∧ ((tk ts p).s[i]?.getD 0).toNat ≤ 57 := fun hlt => by
   have h7 := hnum.2 _ (List.getElem_mem hlt)
   rw [List.getElem?_eq_getElem hlt]
   exact ⟨Lx.byteAt_get hlt, h7⟩
  (repeat' ((conv => whnf); first | refine zA ?_ | refine zO ?_ | refine Ob.auto ?_ | (refine Ob.intro (by (first | exact ⟨by omega, by omega⟩ | exact jg (by omega) (by omega) | exact ⟨by have := hby (by omega); show (0 : Int) ≤ _; omega, by have := hby (by omega); show _ ≤ (255 : Int); omega⟩ | exact jg (by have := hby (by omega); omega) (by have := hby (by omega); omega))) ?_) | refine zD 300 ?_ | (apply zB <;> intro hb <;> (try simp [-List.getD_eq_getElem?_getD] at hb) <;> try (exfalso; omega)) | refine Ob.intro ?_ ?_))
  ·have h7 := hby hb
   have h8 : qgl ((tk ts p).s.take (i + 1)) = 10 * qgl ((tk ts p).s.take i) + (qbc (tk ts p).s (i : Int) - 48) := by
    rw [List.take_succ_eq_append_getElem hb, qzk, Lx.byteAt_get hb]
   ((conv => whnf); refine ⟨i + 1, by omega, ⟨⟨Le.of_eq (congrArg iv h8.symm), Le.refl _, trivial⟩, qa⟩, ⟨qa, qa⟩, ?_⟩; (first | omega | (dsimp only; omega) | skip))
  ·rw [List.take_of_length_le hb]
   exact ⟨Le.refl _, qa⟩

theorem quf (ht : ToksOk ts) (h : AtOk ts p) (s : List UInt8) : Trip Try.prog 97 [.ptr 0 0, .str s] [pso ts p] (iv (qgm ts p s)) [(0, pso ts (took ts p s))] 1 := by
 refine qdk (T := tab Try.prog) (C := {}) 300 (fun _ => rfl) Try.func97 rfl (by kernel_rfl) (by kernel_rfl) (fun c0 rdb mpb => ?_)
 (repeat' ((conv => whnf); first | refine zA ?_ | refine zO ?_ | refine Ob.auto ?_ | refine zD 300 ?_ | (apply zB <;> intro hb <;> (try simp [-List.getD_eq_getElem?_getD] at hb) <;> try (exfalso; omega)) | refine Ob.intro ?_ ?_))
 ((conv => whnf); refine zT 300 [0] (qaw ht h s) qa ?_)
 (repeat' ((conv => whnf); first | refine zA ?_ | refine zO ?_ | refine Ob.auto ?_ | refine zD 300 ?_ | (apply zB <;> intro hb <;> (try simp [-List.getD_eq_getElem?_getD] at hb) <;> try (exfalso; omega)) | refine Ob.intro ?_ ?_))
 ·rw [qgm, if_pos hb]
  exact ⟨Le.refl _, qa⟩
 ·rw [qgm, if_neg (by rw [hb]; decide)]
  exact ⟨Le.refl _, qa⟩

theorem jm (h : AtOk ts p) (k : Int) : Con Try.prog 69 [.rptr (p.cells ts), iv k] (.agg [iv k, .nils, .nils, .nils, iv (tk ts p).pos, .nils]) := by
 refine qi (T := tab Try.prog) (C := {}) 300 (fun _ => rfl) Try.func69 rfl (by kernel_rfl) (by kernel_rfl) (fun c0 rdb => ?_)
 (repeat' ((conv => whnf); first | refine zA ?_ | refine zO ?_ | refine Ob.auto ?_ | refine zC 300 (jl h) ?_ | refine zG 300 (fun hg => jl h) ?_ | (refine CallY.con (jl h) (by rfl) leA ?_) | (refine CallZ.con (fun hg => jl h) qe (by rfl) ?_) | refine zE 300 (jl h) ?_ | refine zF 300 (fun hg => jl h) ?_ | refine zD 300 ?_ | (apply zB <;> intro hb <;> (try simp [-List.getD_eq_getElem?_getD] at hb) <;> try (exfalso; omega)) | refine Ob.intro ?_ ?_))
 exact Le.refl _

theorem qlk (h : AtOk ts p) (hd : 0 ≤ p.deep ∧ p.deep ≤ 100000) : Trip Try.prog 108 [.ptr 0 0] [pso ts p] (.tup []) [(0, pso ts (inP ts p))] 1 := by
 refine qdk (T := tab Try.prog) (C := {}) 300 (fun _ => rfl) Try.func108 rfl (by kernel_rfl) (by kernel_rfl) (fun c0 rdb mpb => ?_)
 (repeat' ((conv => whnf); first | refine zA ?_ | refine zO ?_ | refine Ob.auto ?_ | (refine Ob.intro (by (exact jg (by omega) (by omega))) ?_) | refine zD 300 ?_ | (apply zB <;> intro hb <;> (try simp [-List.getD_eq_getElem?_getD] at hb) <;> try (exfalso; omega)) | refine Ob.intro ?_ ?_))
 ·have h' : AtOk ts { p with deep := p.deep + 1 } := ⟨h.lo, h.hi⟩
  ((conv => whnf); refine zT 300 [0] (qrb h' 12) qa ?_)
  (repeat' ((conv => whnf); first | refine zA ?_ | refine zO ?_ | refine Ob.auto ?_ | refine zD 300 ?_ | (apply zB <;> intro hb <;> (try simp [-List.getD_eq_getElem?_getD] at hb) <;> try (exfalso; omega)) | refine Ob.intro ?_ ?_))
  rw [inP, if_pos (by omega)]
  exact ⟨Le.refl _, qa⟩
 ·rw [inP, if_neg (by omega)]
  exact ⟨Le.refl _, qa⟩

end

end Go.Proofs.Ytdoaagphhjggbaa
