/- Contracts of the document's parser: tokens. -/
import Derived.Test.YtdoaagphhjggbaaQ24
import Derived.Test.YtdoaagphhjggbaaQLexQ2
import Derived.Test.YtdoaagphhjggbaaQ2
namespace Go.Proofs.Ytdoaagphhjggbaa
open Go Go.Sx Go.RowKit Go.St Pa
set_option maxRecDepth 100000
set_option maxHeartbeats 2000000

section
variable {ts : List Lx.Tok} {p : Ps}

abbrev pso (ts : List Lx.Tok) (p : Ps) : SO := .box 86 (p.cells ts)

theorem pok_con : Con Try.prog 70 [.rptr (p.cells ts)] (.bool (p.err == 0)) := by
  refine con_of_exec (T := tab Try.prog) (C := {}) 300 (fun _ => rfl) Try.func70 rfl (by kernel_rfl) (by kernel_rfl) (fun c0 rdb => ?_)
  (repeat' ((conv => whnf); first | refine zA ?_ | refine zO ?_ | refine Ob.auto ?_ | refine zD 300 ?_ | (refine Br.intro (fun hb => ?_) (fun hb => ?_) <;> (try simp [-List.getD_eq_getElem?_getD] at hb) <;> (try (exfalso; omega))) | refine Ob.intro ?_ ?_))
  exact Le.refl _

theorem pnow_con (h : AtOk ts p) : Con Try.prog 71 [.rptr (p.cells ts)] (.agg (Lx.encTok (tk ts p))) := by
  have h0 := h.lo
  have h1 := h.hi
  refine con_of_exec (T := tab Try.prog) (C := {}) 300 (fun _ => rfl) Try.func71 rfl (by kernel_rfl) (by kernel_rfl) (fun c0 rdb => ?_)
  (repeat' ((conv => whnf); first | refine zA ?_ | refine zO ?_ | refine Ob.auto ?_ | (refine Ob.intro (by (exact ⟨by omega, by omega⟩)) ?_) | refine zD 300 ?_ | (refine Br.intro (fun hb => ?_) (fun hb => ?_) <;> (try simp [-List.getD_eq_getElem?_getD] at hb) <;> (try (exfalso; omega))) | refine Ob.intro ?_ ?_))
  exact Le.refl _

theorem psees_con (h : AtOk ts p) (s : List UInt8) : Con Try.prog 90 [.rptr (p.cells ts), .str s] (.bool (sees ts p s)) := by
  refine con_of_exec (T := tab Try.prog) (C := {}) 300 (fun _ => rfl) Try.func90 rfl (by kernel_rfl) (by kernel_rfl) (fun c0 rdb => ?_)
  (repeat' ((conv => whnf); first | refine zA ?_ | refine zO ?_ | refine Ob.auto ?_ | (refine Ob.intro (by (exact ⟨by omega, by omega⟩)) ?_) | refine zC 300 (pnow_con h) ?_ | refine zG 300 (fun hg => pnow_con h) ?_ | (refine CallY.con (pnow_con h) (by rfl) leA ?_) | (refine CallZ.con (fun hg => pnow_con h) rflsA (by rfl) ?_) | refine zC 300 (pok_con) ?_ | refine zG 300 (fun hg => pok_con) ?_ | (refine CallY.con (pok_con) (by rfl) leA ?_) | (refine CallZ.con (fun hg => pok_con) rflsA (by rfl) ?_) | refine zC 300 (key_con _) ?_ | refine zG 300 (fun hg => key_con _) ?_ | (refine CallY.con (key_con _) (by rfl) leA ?_) | (refine CallZ.con (fun hg => key_con _) rflsA (by rfl) ?_) | refine zE 300 (pnow_con h) ?_ | refine zF 300 (fun hg => pnow_con h) ?_ | refine zE 300 (pok_con) ?_ | refine zF 300 (fun hg => pok_con) ?_ | refine zE 300 (key_con _) ?_ | refine zF 300 (fun hg => key_con _) ?_ | refine zD 300 ?_ | (refine Br.intro (fun hb => ?_) (fun hb => ?_) <;> (try simp [-List.getD_eq_getElem?_getD] at hb) <;> (try (exfalso; omega))) | refine Ob.intro ?_ ?_))
  refine Le.of_eq (congrArg AV.bool ?_)
  unfold sees tokSees
  rw [Bool.and_assoc]

theorem pbad_trip (h : AtOk ts p) (e : Int) : Trip Try.prog 110 [.ptr 0 0, iv e] [pso ts p] (.tup []) [(0, pso ts (bad ts p e))] 1 := by
  refine trip_of_exec (T := tab Try.prog) (C := {}) 300 (fun _ => rfl) Try.func110 rfl (by kernel_rfl) (by kernel_rfl) (fun c0 rdb mpb => ?_)
  (repeat' ((conv => whnf); first | refine zA ?_ | refine zO ?_ | refine Ob.auto ?_ | (refine Ob.intro (by (exact ⟨by omega, by omega⟩)) ?_) | refine zC 300 (pnow_con h) ?_ | refine zG 300 (fun hg => pnow_con h) ?_ | (refine CallY.con (pnow_con h) (by rfl) leA ?_) | (refine CallZ.con (fun hg => pnow_con h) rflsA (by rfl) ?_) | refine zC 300 (pok_con) ?_ | refine zG 300 (fun hg => pok_con) ?_ | (refine CallY.con (pok_con) (by rfl) leA ?_) | (refine CallZ.con (fun hg => pok_con) rflsA (by rfl) ?_) | refine zE 300 (pnow_con h) ?_ | refine zF 300 (fun hg => pnow_con h) ?_ | refine zE 300 (pok_con) ?_ | refine zF 300 (fun hg => pok_con) ?_ | refine zD 300 ?_ | (refine Br.intro (fun hb => ?_) (fun hb => ?_) <;> (try simp [-List.getD_eq_getElem?_getD] at hb) <;> (try (exfalso; omega))) | refine Ob.intro ?_ ?_))
  · have e1 : bad ts p e = { p with err := e, fat := (tk ts p).pos } := if_pos hb
    rw [e1]
    exact ⟨Le.refl _, subtA⟩
  · have e1 : bad ts p e = p := if_neg hb
    rw [e1]
    exact ⟨Le.refl _, subtA⟩

theorem ptake_trip (ht : ToksOk ts) (h : AtOk ts p) (s : List UInt8) : Trip Try.prog 93 [.ptr 0 0, .str s] [pso ts p] (.bool (sees ts p s)) [(0, pso ts (took ts p s))] 1 := by
  have h0 := h.lo
  have h1 := h.hi
  have h2 := ht.len
  refine trip_of_exec (T := tab Try.prog) (C := {}) 300 (fun _ => rfl) Try.func93 rfl (by kernel_rfl) (by kernel_rfl) (fun c0 rdb mpb => ?_)
  (repeat' ((conv => whnf); first | refine zA ?_ | refine zO ?_ | refine Ob.auto ?_ | (refine Ob.intro (by (exact inR_i64 (by omega) (by omega))) ?_) | refine zC 300 (psees_con h s) ?_ | refine zG 300 (fun hg => psees_con h s) ?_ | (refine CallY.con (psees_con h s) (by rfl) leA ?_) | (refine CallZ.con (fun hg => psees_con h s) rflsA (by rfl) ?_) | refine zE 300 (psees_con h s) ?_ | refine zF 300 (fun hg => psees_con h s) ?_ | refine zD 300 ?_ | (refine Br.intro (fun hb => ?_) (fun hb => ?_) <;> (try simp [-List.getD_eq_getElem?_getD] at hb) <;> (try (exfalso; omega))) | refine Ob.intro ?_ ?_))
  · rw [hb, took, if_neg (by rw [hb]; decide)]
    exact ⟨Le.refl _, subtA⟩
  · rw [hb, took, if_pos hb]
    exact ⟨Le.refl _, subtA⟩

theorem pmust_trip (ht : ToksOk ts) (h : AtOk ts p) (s : List UInt8) : Trip Try.prog 95 [.ptr 0 0, .str s] [pso ts p] (.tup []) [(0, pso ts (must ts p s))] 1 := by
  refine trip_of_exec (T := tab Try.prog) (C := {}) 300 (fun _ => rfl) Try.func95 rfl (by kernel_rfl) (by kernel_rfl) (fun c0 rdb mpb => ?_)
  (repeat' ((conv => whnf); first | refine zA ?_ | refine zO ?_ | refine Ob.auto ?_ | refine zD 300 ?_ | (refine Br.intro (fun hb => ?_) (fun hb => ?_) <;> (try simp [-List.getD_eq_getElem?_getD] at hb) <;> (try (exfalso; omega))) | refine Ob.intro ?_ ?_))
  ((conv => whnf); refine zT 300 [0] (ptake_trip ht h s) subtA ?_)
  (repeat' ((conv => whnf); first | refine zA ?_ | refine zO ?_ | refine Ob.auto ?_ | refine zD 300 ?_ | (refine Br.intro (fun hb => ?_) (fun hb => ?_) <;> (try simp [-List.getD_eq_getElem?_getD] at hb) <;> (try (exfalso; omega))) | refine Ob.intro ?_ ?_))
  · have e1 : took ts p s = p := if_neg (by rw [hb]; decide)
    have e2 : must ts p s = bad ts p 11 := if_neg (by rw [hb]; decide)
    rw [e1]
    ((conv => whnf); refine zT 300 [0] (pbad_trip h 11) subtA ?_)
    (repeat' ((conv => whnf); first | refine zA ?_ | refine zO ?_ | refine Ob.auto ?_ | refine zD 300 ?_ | (refine Br.intro (fun hb => ?_) (fun hb => ?_) <;> (try simp [-List.getD_eq_getElem?_getD] at hb) <;> (try (exfalso; omega))) | refine Ob.intro ?_ ?_))
    rw [e2]
    exact ⟨Le.refl _, subtA⟩
  · have e1 : took ts p s = adv p := if_pos hb
    have e2 : must ts p s = adv p := if_pos hb
    rw [e1, e2]
    exact ⟨Le.refl _, subtA⟩

theorem pname_trip (ht : ToksOk ts) (h : AtOk ts p) : Trip Try.prog 94 [.ptr 0 0] [pso ts p] (.str (nameW ts p)) [(0, pso ts (nameP ts p))] 1 := by
  have h0 := h.lo
  have h1 := h.hi
  have h2 := ht.len
  refine trip_of_exec (T := tab Try.prog) (C := {}) 300 (fun _ => rfl) Try.func94 rfl (by kernel_rfl) (by kernel_rfl) (fun c0 rdb mpb => ?_)
  (repeat' ((conv => whnf); first | refine zA ?_ | refine zO ?_ | refine Ob.auto ?_ | (refine Ob.intro (by (exact inR_i64 (by omega) (by omega))) ?_) | refine zC 300 (pnow_con h) ?_ | refine zG 300 (fun hg => pnow_con h) ?_ | (refine CallY.con (pnow_con h) (by rfl) leA ?_) | (refine CallZ.con (fun hg => pnow_con h) rflsA (by rfl) ?_) | refine zC 300 (name_con _) ?_ | refine zG 300 (fun hg => name_con _) ?_ | (refine CallY.con (name_con _) (by rfl) leA ?_) | (refine CallZ.con (fun hg => name_con _) rflsA (by rfl) ?_) | refine zC 300 (pok_con) ?_ | refine zG 300 (fun hg => pok_con) ?_ | (refine CallY.con (pok_con) (by rfl) leA ?_) | (refine CallZ.con (fun hg => pok_con) rflsA (by rfl) ?_) | refine zE 300 (pnow_con h) ?_ | refine zF 300 (fun hg => pnow_con h) ?_ | refine zE 300 (name_con _) ?_ | refine zF 300 (fun hg => name_con _) ?_ | refine zE 300 (pok_con) ?_ | refine zF 300 (fun hg => pok_con) ?_ | refine zD 300 ?_ | (refine Br.intro (fun hb => ?_) (fun hb => ?_) <;> (try simp [-List.getD_eq_getElem?_getD] at hb) <;> (try (exfalso; omega))) | refine Ob.intro ?_ ?_))
  · have e : isName ts p = false := by
      unfold isName
      rcases hb with (hb | hb) | hb <;> simp [hb]
    ((conv => whnf); refine zT 300 [0] (pbad_trip h 11) subtA ?_)
    (repeat' ((conv => whnf); first | refine zA ?_ | refine zO ?_ | refine Ob.auto ?_ | refine zD 300 ?_ | (refine Br.intro (fun hb => ?_) (fun hb => ?_) <;> (try simp [-List.getD_eq_getElem?_getD] at hb) <;> (try (exfalso; omega))) | refine Ob.intro ?_ ?_))
    rw [nameW, nameP, if_neg (by rw [e]; decide), if_neg (by rw [e]; decide)]
    exact ⟨Le.refl _, subtA⟩
  · have e : isName ts p = true := by
      unfold isName
      simp [hb.1.1, hb.1.2, hb.2]
    rw [nameW, nameP, if_pos e, if_pos e]
    exact ⟨Le.refl _, subtA⟩

theorem pnum_trip (ht : ToksOk ts) (h : AtOk ts p) : Trip Try.prog 96 [.ptr 0 0] [pso ts p] (iv (numN ts p)) [(0, pso ts (numP ts p))] 1 := by
  have h0 := h.lo
  have h1 := h.hi
  have h2 := ht.len
  refine trip_of_exec (T := tab Try.prog) (C := {}) 300 (fun _ => rfl) Try.func96 rfl (by kernel_rfl) (by kernel_rfl) (fun c0 rdb mpb => ?_)
  (repeat' ((conv => whnf); first | refine zA ?_ | refine zO ?_ | refine Ob.auto ?_ | (refine Ob.intro (by (exact inR_i64 (by omega) (by omega))) ?_) | refine zC 300 (pnow_con h) ?_ | refine zG 300 (fun hg => pnow_con h) ?_ | (refine CallY.con (pnow_con h) (by rfl) leA ?_) | (refine CallZ.con (fun hg => pnow_con h) rflsA (by rfl) ?_) | refine zC 300 (pok_con) ?_ | refine zG 300 (fun hg => pok_con) ?_ | (refine CallY.con (pok_con) (by rfl) leA ?_) | (refine CallZ.con (fun hg => pok_con) rflsA (by rfl) ?_) | refine zE 300 (pnow_con h) ?_ | refine zF 300 (fun hg => pnow_con h) ?_ | refine zE 300 (pok_con) ?_ | refine zF 300 (fun hg => pok_con) ?_ | refine zD 300 ?_ | (refine Br.intro (fun hb => ?_) (fun hb => ?_) <;> (try simp [-List.getD_eq_getElem?_getD] at hb) <;> (try (exfalso; omega))) | refine Ob.intro ?_ ?_))
  · have e : isNum ts p = false := by
      unfold isNum
      rcases hb with hb | hb <;> simp [hb]
    ((conv => whnf); refine zT 300 [0] (pbad_trip h 11) subtA ?_)
    (repeat' ((conv => whnf); first | refine zA ?_ | refine zO ?_ | refine Ob.auto ?_ | refine zD 300 ?_ | (refine Br.intro (fun hb => ?_) (fun hb => ?_) <;> (try simp [-List.getD_eq_getElem?_getD] at hb) <;> (try (exfalso; omega))) | refine Ob.intro ?_ ?_))
    rw [numN, numP, if_neg (by rw [e]; decide), if_neg (by rw [e]; decide)]
    exact ⟨Le.refl _, subtA⟩
  · have e : isNum ts p = true := by
      unfold isNum
      simp [hb.1, hb.2]
    have hnum := ht.num _ (tk_mem h) hb.1
    have hdg := digits_bound hnum.2
    rw [numN, numP, if_pos e, if_pos e]
    ((conv => whnf); refine loop_auto (fun _ => rfl) 300 1 (fun i : Nat => [(4, iv (digits ((tk ts p).s.take i))), (5, iv i)]) (fun _ => []) (fun i => i ≤ (tk ts p).s.length) (fun i => (tk ts p).s.length - i) (0) (by omega) subtA subtA (fun _ => rfl) (by kernel_rfl) ?_; (conv => whnf))
    intro i hi
    have h3 := hdg i hi
    have h6 : (10 : Int) ^ i ≤ 10 ^ 6 := by exact_mod_cast Nat.pow_le_pow_right (show 0 < 10 by decide) (show i ≤ 6 by omega)
    have hby : i < (tk ts p).s.length → byteAt (tk ts p).s (i : Int) = (((tk ts p).s[i]?.getD 0).toNat : Int) ∧ 48 ≤ ((tk ts p).s[i]?.getD 0).toNat ∧ ((tk ts p).s[i]?.getD 0).toNat ≤ 57 := fun hlt => by
      have h7 := hnum.2 _ (List.getElem_mem hlt)
      rw [List.getElem?_eq_getElem hlt]
      exact ⟨Lx.byteAt_get hlt, h7⟩
    (repeat' ((conv => whnf); first | refine zA ?_ | refine zO ?_ | refine Ob.auto ?_ | (refine Ob.intro (by (first | exact ⟨by omega, by omega⟩ | exact inR_i64 (by omega) (by omega) | exact ⟨by have := hby (by omega); show (0 : Int) ≤ _; omega, by have := hby (by omega); show _ ≤ (255 : Int); omega⟩ | exact inR_i64 (by have := hby (by omega); omega) (by have := hby (by omega); omega))) ?_) | refine zD 300 ?_ | (refine Br.intro (fun hb => ?_) (fun hb => ?_) <;> (try simp [-List.getD_eq_getElem?_getD] at hb) <;> (try (exfalso; omega))) | refine Ob.intro ?_ ?_))
    · have h7 := hby hb
      have h8 : digits ((tk ts p).s.take (i + 1)) = 10 * digits ((tk ts p).s.take i) + (byteAt (tk ts p).s (i : Int) - 48) := by
        rw [List.take_succ_eq_append_getElem hb, digits_snoc, Lx.byteAt_get hb]
      ((conv => whnf); refine ⟨i + 1, by omega, ⟨⟨Le.of_eq (congrArg iv h8.symm), Le.refl _, trivial⟩, subtA⟩, ⟨subtA, subtA⟩, ?_⟩; (first | omega | (dsimp only; omega) | skip))
    · rw [List.take_of_length_le hb]
      exact ⟨Le.refl _, subtA⟩

theorem pflag_trip (ht : ToksOk ts) (h : AtOk ts p) (s : List UInt8) : Trip Try.prog 97 [.ptr 0 0, .str s] [pso ts p] (iv (flagN ts p s)) [(0, pso ts (took ts p s))] 1 := by
  refine trip_of_exec (T := tab Try.prog) (C := {}) 300 (fun _ => rfl) Try.func97 rfl (by kernel_rfl) (by kernel_rfl) (fun c0 rdb mpb => ?_)
  (repeat' ((conv => whnf); first | refine zA ?_ | refine zO ?_ | refine Ob.auto ?_ | refine zD 300 ?_ | (refine Br.intro (fun hb => ?_) (fun hb => ?_) <;> (try simp [-List.getD_eq_getElem?_getD] at hb) <;> (try (exfalso; omega))) | refine Ob.intro ?_ ?_))
  ((conv => whnf); refine zT 300 [0] (ptake_trip ht h s) subtA ?_)
  (repeat' ((conv => whnf); first | refine zA ?_ | refine zO ?_ | refine Ob.auto ?_ | refine zD 300 ?_ | (refine Br.intro (fun hb => ?_) (fun hb => ?_) <;> (try simp [-List.getD_eq_getElem?_getD] at hb) <;> (try (exfalso; omega))) | refine Ob.intro ?_ ?_))
  · rw [flagN, if_pos hb]
    exact ⟨Le.refl _, subtA⟩
  · rw [flagN, if_neg (by rw [hb]; decide)]
    exact ⟨Le.refl _, subtA⟩

theorem pbegin_con (h : AtOk ts p) (k : Int) : Con Try.prog 69 [.rptr (p.cells ts), iv k] (.agg [iv k, .nils, .nils, .nils, iv (tk ts p).pos, .nils]) := by
  refine con_of_exec (T := tab Try.prog) (C := {}) 300 (fun _ => rfl) Try.func69 rfl (by kernel_rfl) (by kernel_rfl) (fun c0 rdb => ?_)
  (repeat' ((conv => whnf); first | refine zA ?_ | refine zO ?_ | refine Ob.auto ?_ | refine zC 300 (pnow_con h) ?_ | refine zG 300 (fun hg => pnow_con h) ?_ | (refine CallY.con (pnow_con h) (by rfl) leA ?_) | (refine CallZ.con (fun hg => pnow_con h) rflsA (by rfl) ?_) | refine zE 300 (pnow_con h) ?_ | refine zF 300 (fun hg => pnow_con h) ?_ | refine zD 300 ?_ | (refine Br.intro (fun hb => ?_) (fun hb => ?_) <;> (try simp [-List.getD_eq_getElem?_getD] at hb) <;> (try (exfalso; omega))) | refine Ob.intro ?_ ?_))
  exact Le.refl _

theorem pin_trip (h : AtOk ts p) (hd : 0 ≤ p.deep ∧ p.deep ≤ 100000) : Trip Try.prog 108 [.ptr 0 0] [pso ts p] (.tup []) [(0, pso ts (inP ts p))] 1 := by
  refine trip_of_exec (T := tab Try.prog) (C := {}) 300 (fun _ => rfl) Try.func108 rfl (by kernel_rfl) (by kernel_rfl) (fun c0 rdb mpb => ?_)
  (repeat' ((conv => whnf); first | refine zA ?_ | refine zO ?_ | refine Ob.auto ?_ | (refine Ob.intro (by (exact inR_i64 (by omega) (by omega))) ?_) | refine zD 300 ?_ | (refine Br.intro (fun hb => ?_) (fun hb => ?_) <;> (try simp [-List.getD_eq_getElem?_getD] at hb) <;> (try (exfalso; omega))) | refine Ob.intro ?_ ?_))
  · have h' : AtOk ts { p with deep := p.deep + 1 } := ⟨h.lo, h.hi⟩
    ((conv => whnf); refine zT 300 [0] (pbad_trip h' 12) subtA ?_)
    (repeat' ((conv => whnf); first | refine zA ?_ | refine zO ?_ | refine Ob.auto ?_ | refine zD 300 ?_ | (refine Br.intro (fun hb => ?_) (fun hb => ?_) <;> (try simp [-List.getD_eq_getElem?_getD] at hb) <;> (try (exfalso; omega))) | refine Ob.intro ?_ ?_))
    rw [inP, if_pos (by omega)]
    exact ⟨Le.refl _, subtA⟩
  · rw [inP, if_neg (by omega)]
    exact ⟨Le.refl _, subtA⟩

end

end Go.Proofs.Ytdoaagphhjggbaa
