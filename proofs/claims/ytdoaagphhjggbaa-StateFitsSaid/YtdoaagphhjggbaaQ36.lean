/- Some texts of the library, one behind the other. -/
import Derived.Test.YtdoaagphhjggbaaQPaL
import Derived.Test.YtdoaagphhjggbaaQ35
import Derived.Test.YtdoaagphhjggbaaQLexQ2
import Derived.Test.YtdoaagphhjggbaaQPa0
import Derived.Test.YtdoaagphhjggbaaQ22
import Derived.Test.YtdoaagphhjggbaaQSt1
import Derived.Test.YtdoaagphhjggbaaQ4
import Derived.Test.YtdoaagphhjggbaaQ2
section
/- The contract of the document's parser. -/
namespace Go.Proofs.Ytdoaagphhjggbaa
open Go Go.Sx Go.RowKit Go.St Pa
set_option maxRecDepth 100000
set_option maxHeartbeats 8000000

theorem parse_con (s : List UInt8) (hs : s.length ≤ 1000000) : Con Try.prog 15 [.str s] (parseV (parseF s)) := by
  refine con_of_exec (T := tab Try.prog) (C := {}) 300 (fun _ => rfl) Try.func15 rfl (by kernel_rfl) (by kernel_rfl) (fun c0 rdb => ?_)
  (repeat' ((conv => whnf); first | refine zA ?_ | refine zO ?_ | refine Ob.auto ?_ | refine zC 300 (qtokens_con s hs) ?_ | refine zG 300 (fun hg => qtokens_con s hs) ?_ | (refine CallY.con (qtokens_con s hs) (by rfl) leA ?_) | (refine CallZ.con (fun hg => qtokens_con s hs) rflsA (by rfl) ?_) | refine zE 300 (qtokens_con s hs) ?_ | refine zF 300 (fun hg => qtokens_con s hs) ?_ | refine zD 300 ?_ | (refine Br.intro (fun hb => ?_) (fun hb => ?_) <;> (try simp [-List.getD_eq_getElem?_getD] at hb) <;> (try (exfalso; omega))) | refine Ob.intro ?_ ?_))
  · have he : (Lx.lexAll s).2.1 ≠ 0 := by assumption
    have e : parseF s = ([], (Lx.lexAll s).2) := if_pos he
    rw [e]
    exact Le.tup ⟨Le.nils _ _, Le.refl _, trivial⟩
  have he : (Lx.lexAll s).2.1 = 0 := by assumption
  obtain ⟨ht, h0⟩ := toks_ok he
  have e : parseF s = parseT (Lx.lexAll s).1 := if_neg (by rw [he]; decide)
  rw [e]
  generalize hts : (Lx.lexAll s).1 = ts at ht h0 ⊢
  have hP : Pre ts ts.length ⟨0, 0, 0, 0⟩ := ⟨⟨Int.le_refl _, by simp only; omega⟩, by simp, by simp⟩
  ((conv => whnf); refine zT 300 [2] (program_rd ht hP) subtA ?_)
  (repeat' ((conv => whnf); first | refine zA ?_ | refine zO ?_ | refine Ob.auto ?_ | refine zD 300 ?_ | (refine Br.intro (fun hb => ?_) (fun hb => ?_) <;> (try simp [-List.getD_eq_getElem?_getD] at hb) <;> (try (exfalso; omega))) | refine Ob.intro ?_ ?_))
  · have hn : (programF ts ⟨0, 0, 0, 0⟩).2.err ≠ 0 := by assumption
    have e : parseT ts = ([], ((programF ts ⟨0, 0, 0, 0⟩).2.err, (programF ts ⟨0, 0, 0, 0⟩).2.fat)) := if_pos hn
    rw [e]
    exact Le.tup ⟨Le.nils _ _, Le.refl _, trivial⟩
  have hn : (programF ts ⟨0, 0, 0, 0⟩).2.err = 0 := by assumption
  have hsz : (programF ts ⟨0, 0, 0, 0⟩).1.size ≤ 100000 := by
    have := fit_program ht hP.at_ hn
    have := ht.len
    omega
  have e2 : parseT ts = if 800 < (layT 0 (programF ts ⟨0, 0, 0, 0⟩).1).length then ([], (12, 0)) else if 0 ≤ deepT (programF ts ⟨0, 0, 0, 0⟩).1 1 then ([], (12, deepT (programF ts ⟨0, 0, 0, 0⟩).1 1)) else (layT 0 (programF ts ⟨0, 0, 0, 0⟩).1, (0, 0)) := if_neg (fun h => h hn)
  rw [e2]
  generalize (programF ts ⟨0, 0, 0, 0⟩).1 = t at hsz ⊢
  (conv => whnf)
  refine call_trip (fun _ => rfl) 300 [] (lay_nil t hsz) (by kernel_rfl) leA trivial (by exact rowsLt_nil rfl) (rowsM _) (by kernel_rfl) ?_
  (repeat' ((conv => whnf); first | refine zA ?_ | refine zO ?_ | refine Ob.auto ?_ | refine zC 300 (deep_con _ t 1 (Nat.le_refl _) hsz (by decide) (by decide)) ?_ | refine zG 300 (fun hg => deep_con _ t 1 (Nat.le_refl _) hsz (by decide) (by decide)) ?_ | (refine CallY.con (deep_con _ t 1 (Nat.le_refl _) hsz (by decide) (by decide)) (by rfl) leA ?_) | (refine CallZ.con (fun hg => deep_con _ t 1 (Nat.le_refl _) hsz (by decide) (by decide)) rflsA (by rfl) ?_) | refine zE 300 (deep_con _ t 1 (Nat.le_refl _) hsz (by decide) (by decide)) ?_ | refine zF 300 (fun hg => deep_con _ t 1 (Nat.le_refl _) hsz (by decide) (by decide)) ?_ | refine zD 300 ?_ | (refine Br.intro (fun hb => ?_) (fun hb => ?_) <;> (try simp [-List.getD_eq_getElem?_getD] at hb) <;> (try (exfalso; omega))) | refine Ob.intro ?_ ?_))
  · have hb8 : 800 < (layT 0 t).length := by omega
    rw [if_pos hb8]
    exact Le.tup ⟨Le.nils _ _, Le.refl _, trivial⟩
  · have hb8 : ¬ 800 < (layT 0 t).length := by omega
    rw [if_neg hb8, if_pos (by assumption)]
    exact Le.tup ⟨Le.nils _ _, Le.refl _, trivial⟩
  · exact ⟨⟨trivial, ⟨rfl, rfl⟩, fun k hk => ⟨trivial, trivial, trivial, ⟨hk, ⟨rfl, rfl⟩, trivial⟩, trivial, trivial⟩⟩, ⟨trivial, trivial, trivial⟩, trivial⟩
  · have hb8 : ¬ 800 < (layT 0 t).length := by omega
    rw [if_neg hb8, if_neg (by omega)]
    refine Le.tup ⟨Le.slcL rfl (fun k hk => ?_), Le.refl _, trivial⟩
    exact ⟨Le.refl _, Le.refl _, Le.refl _, Le.refl _, Le.refl _, trivial⟩

end Go.Proofs.Ytdoaagphhjggbaa
end
section
/- Texts of their own, parsed by the plain parser: with fuel, so that the kernel can go through. -/
namespace Go.Proofs.Ytdoaagphhjggbaa
namespace Pa
open Go Go.Sx

def lexF : Nat → List UInt8 → Nat → Except Nat (List Lx.Tok)
  | 0, _, p => .error p
  | _ + 1, [], p => .ok [⟨3, [], p⟩]
  | n + 1, b :: r, p => if Lx.blankB b then lexF n r (p + 1) else if Lx.slash2 (b :: r) then lexF n (r.drop (Lx.lineN r)) (p + 1 + Lx.lineN r) else if Lx.firstN (b :: r) = 0 then .error p
    else (lexF n (r.drop (Lx.firstN (b :: r) - 1)) (p + Lx.firstN (b :: r))).map (⟨Lx.firstK (b :: r), (b :: r).take (Lx.firstN (b :: r)), p⟩ :: ·)

theorem lexF_eq : ∀ (n : Nat) (l : List UInt8) (p : Nat), l.length < n → lexF n l p = Lx.lexR l p
  | 0, _, _, h => absurd h (Nat.not_lt_zero _)
  | n + 1, [], p, _ => by rw [Lx.lexR_nil]; rfl
  | n + 1, b :: r, p, h => by
    have hr : r.length < n := by simpa using h
    rw [Lx.lexR_cons, lexF, lexF_eq n r _ hr, lexF_eq n (r.drop (Lx.lineN r)) _ (by rw [List.length_drop]; omega), lexF_eq n (r.drop (Lx.firstN (b :: r) - 1)) _ (by rw [List.length_drop]; omega)]

def parseX (s : List UInt8) : List Nd × (Int × Int) :=
  match lexF (s.length + 1) s 0 with
  | .ok ts => parseT ts
  | .error p => ([], (10, p))

theorem parseF_eq {s : List UInt8} {r : List Nd × (Int × Int)} (h : parseX s = r) (hs : s.length ≤ 4000) : parseF s = r := by
  unfold parseX at h
  rw [lexF_eq _ _ _ (Nat.lt_succ_self _)] at h
  have hn : ¬ 4000 < s.length := by omega
  unfold parseF Lx.lexAll
  split at h
  · rename_i ts hts
    rw [hts, if_neg hn]
    exact h
  · rename_i p hp
    rw [hp, if_neg hn]
    exact h

end Pa
end Go.Proofs.Ytdoaagphhjggbaa
end
section
/- The texts of the laws of layer 14, parsed, and their models made: by the general contracts. -/
namespace Go.Proofs.Ytdoaagphhjggbaa
open Go Go.Sx Go.RowKit Go.St Pa
set_option maxRecDepth 100000

def text14 : List UInt8 := [115, 97, 102, 101, 32, 49, 48, 48, 32, 43, 32, 49, 48, 48, 59]
def tree14 : List Nd := [⟨0, [], [], [1], 0⟩, ⟨4, [], [], [2], 0⟩, ⟨22, [], [4], [3, 4], 5⟩, ⟨17, [], [100], [], 5⟩, ⟨17, [], [100], [], 11⟩]
def model14 : Md := { tree := tree14, safe := [2] }

theorem px14 : parseX text14 = (tree14, (0, 0)) := by kernel_rfl

theorem parse14 : Con Try.prog 15 [.str text14] (.tup [treeV tree14, flt 0 0]) := by
  have h := parse_con text14 (by decide)
  rw [parseF_eq px14 (by decide)] at h
  exact h
theorem tree_14 : Tree tree14 := tree_of_right (by decide +kernel)
theorem check_14 : (check12 tree14).1 = 0 := by decide +kernel
theorem makeF_14 : makeF tree14 = model14 := by kernel_rfl
theorem make14 : Con Try.prog 16 [treeV tree14] (.tup [model14.av, .bool true]) := by
  have h := make_con tree14 tree_14 check_14
  rw [makeF_14] at h
  exact h
theorem mod_14 : ModOk model14 := makeF_14 ▸ modOk_make tree_14 check_14
end Go.Proofs.Ytdoaagphhjggbaa
end
section
/- Contracts: expressions, by the document's answer. -/
namespace Go.Proofs.Ytdoaagphhjggbaa
open Go Go.Sx Go.RowKit Go.St
set_option maxRecDepth 100000
set_option maxHeartbeats 2000000

end Go.Proofs.Ytdoaagphhjggbaa
end
section
/- Contracts: states, by the document's answer. -/
namespace Go.Proofs.Ytdoaagphhjggbaa
open Go Go.Sx Go.RowKit Go.St
set_option maxRecDepth 100000
set_option maxHeartbeats 2000000

theorem rfirst_trip (m : Md) (hm : MOk m) : Trip Try.prog 19 [m.av] []
    (.agg [.own 3 0 0 m.procs.length, .own 4 0 0 m.vars.length, .own 5 0 0 m.chans.length, iv (-1)])
    [(3, .row [] 3 1 0 m.procs.length (fun _ => [iv 0])), (4, .row [] 3 1 0 m.vars.length (fun i => [iv (m.vars.getD i Vr.none).value])), (5, .row [] 23 1 0 m.chans.length (fun _ => [.nils]))] 6 := by
  have hsz := hm.sz
  refine trip_of_exec (T := tab Try.prog) (C := {}) 300 (fun _ => rfl) Try.func19 rfl (by kernel_rfl) (by kernel_rfl) (fun c0 rdb mpb => ?_)
  (repeat' ((conv => whnf); first | refine Ob.auto ?_ | (refine draw_nc (fun _ => rfl) (by kernel_rfl) 300 (by rfl) (by kernel_rfl) ?_) | (refine Br.intro (fun hb => ?_) (fun hb => ?_) <;> (try simp [-List.getD_eq_getElem?_getD] at hb) <;> (try (exfalso; omega))) | refine Ob.intro ?_ ?_))
  refine loop_nil 2 0 3 1 rfl rfl ?_
  ((conv => whnf); refine loop_keep (fun _ => rfl) 300 1 [1, 2, 3] [0, 1] (fun i : Nat => [(4, iv i)]) (fun i => [(2, .box 34 [.own 3 0 0 i, .nils, .nils, iv (-1)]), (3, .row [] 3 1 0 i (fun _ => [iv 0]))]) (fun i => i ≤ m.procs.length) (fun i => m.procs.length - i) (0) (by omega) subtA subtA (fun _ => rfl) (by kernel_rfl) ?_; (conv => whnf))
  intro i hi
  (repeat' ((conv => whnf); first | refine Ob.auto ?_ | (refine draw_nc (fun _ => rfl) (by kernel_rfl) 300 (by rfl) (by kernel_rfl) ?_) | (refine Br.intro (fun hb => ?_) (fun hb => ?_) <;> (try simp [-List.getD_eq_getElem?_getD] at hb) <;> (try (exfalso; omega))) | refine Ob.intro ?_ ?_))
  · ((conv => whnf); refine ⟨i + 1, by omega, ⟨subtA, subtA⟩, ⟨subtA, subtA⟩, ?_⟩; (first | omega | (dsimp only; omega) | skip))
  obtain rfl : i = m.procs.length := by omega
  clear hi hb
  refine loop_nil 2 1 3 1 rfl rfl ?_
  ((conv => whnf); refine loop_keep (fun _ => rfl) 300 2 [1, 2, 3] [0, 1, 3] (fun i : Nat => [(5, iv i)]) (fun i => [(2, .box 34 [.own 3 0 0 m.procs.length, .own 4 0 0 i, .nils, iv (-1)]), (4, .row [] 3 1 0 i (fun i => [iv (m.vars.getD i Vr.none).value]))]) (fun i => i ≤ m.vars.length) (fun i => m.vars.length - i) (0) (by omega) subtA subtA (fun _ => rfl) (by kernel_rfl) ?_; (conv => whnf))
  intro i hi
  (repeat' ((conv => whnf); first | refine Ob.auto ?_ | (refine draw_nc (fun _ => rfl) (by kernel_rfl) 300 (by rfl) (by kernel_rfl) ?_) | (refine Br.intro (fun hb => ?_) (fun hb => ?_) <;> (try simp [-List.getD_eq_getElem?_getD] at hb) <;> (try (exfalso; omega))) | refine Ob.intro ?_ ?_))
  · ((conv => whnf); refine ⟨i + 1, by omega, ⟨subtA, subtA⟩, ⟨subtA, subtA⟩, ?_⟩; (first | omega | (dsimp only; omega) | skip))
  obtain rfl : i = m.vars.length := by omega
  clear hi hb
  refine loop_nil 2 2 23 1 rfl rfl ?_
  ((conv => whnf); refine loop_keep (fun _ => rfl) 300 3 [1, 2, 3] [0, 1, 3, 4] (fun i : Nat => [(6, iv i)]) (fun i => [(2, .box 34 [.own 3 0 0 m.procs.length, .own 4 0 0 m.vars.length, .own 5 0 0 i, iv (-1)]), (5, .row [] 23 1 0 i (fun i => [.nils]))]) (fun i => i ≤ m.chans.length) (fun i => m.chans.length - i) (0) (by omega) subtA subtA (fun _ => rfl) (by kernel_rfl) ?_; (conv => whnf))
  intro i hi
  (repeat' ((conv => whnf); first | refine Ob.auto ?_ | (refine draw_nc (fun _ => rfl) (by kernel_rfl) 300 (by rfl) (by kernel_rfl) ?_) | (refine Br.intro (fun hb => ?_) (fun hb => ?_) <;> (try simp [-List.getD_eq_getElem?_getD] at hb) <;> (try (exfalso; omega))) | refine Ob.intro ?_ ?_))
  · ((conv => whnf); refine ⟨i + 1, by omega, ⟨subtA, subtA⟩, ⟨subtA, subtA⟩, ?_⟩; (first | omega | (dsimp only; omega) | skip))
  obtain rfl : i = m.chans.length := by omega
  (conv => whnf)
  exact ⟨Le.refl _, subtA⟩

theorem held_con (m : Md) (hm : MOk m) (l : List Int) : Con Try.prog 10 [m.av, ints l] (heldF m l).av := by
  have hsz := hm.sz
  have hpl := hm.place
  have hch := hm.chan
  refine con_of_exec (T := tab Try.prog) (C := {}) 300 (fun _ => rfl) Try.func10 rfl (by kernel_rfl) (by kernel_rfl) (fun c0 rdb => ?_)
  (repeat' ((conv => whnf); first | refine Ob.auto ?_ | (refine draw_nc (fun _ => rfl) (by kernel_rfl) 300 (by rfl) (by kernel_rfl) ?_) | (refine Br.intro (fun hb => ?_) (fun hb => ?_) <;> (try simp [-List.getD_eq_getElem?_getD] at hb) <;> (try (exfalso; omega))) | refine Ob.intro ?_ ?_))
  ((conv => whnf); refine zT 300 [] (rfirst_trip m hm) subtA ?_)
  (repeat' ((conv => whnf); first | refine Ob.auto ?_ | (refine draw_nc (fun _ => rfl) (by kernel_rfl) 300 (by rfl) (by kernel_rfl) ?_) | (refine Br.intro (fun hb => ?_) (fun hb => ?_) <;> (try simp [-List.getD_eq_getElem?_getD] at hb) <;> (try (exfalso; omega))) | refine Ob.intro ?_ ?_))
  ((conv => whnf); refine loop_keep (fun _ => rfl) 300 1 [1, 2, 4, 5] [0, 1, 6, 7, 8] (fun i : Nat => [(6, iv i), (7, iv i)]) (fun i => [(5, .row [] 3 1 0 m.procs.length (fun j => [if j < i then iv (partN l j (m.procs.getD j Pr.none).places) else iv 0]))]) (fun i => i ≤ m.procs.length) (fun i => m.procs.length - i) (0) (by omega) subtA subtA (fun _ => rfl) (by kernel_rfl) ?_; (conv => whnf))
  intro i hi
  (repeat' ((conv => whnf); first | refine Ob.auto ?_ | (refine draw_nc (fun _ => rfl) (by kernel_rfl) 300 (by rfl) (by kernel_rfl) ?_) | (refine Br.intro (fun hb => ?_) (fun hb => ?_) <;> (try simp [-List.getD_eq_getElem?_getD] at hb) <;> (try (exfalso; omega))) | refine Ob.intro ?_ ?_))
  · have hpi := hpl _ (getD_mem m.procs i Pr.none (by omega))
    ((conv => whnf); refine draw_ex (fun _ => rfl) (by kernel_rfl) 300 [iv (partN l i (m.procs.getD i Pr.none).places)] (by kernel_rfl) ?_)
    (repeat' ((conv => whnf); first | refine Ob.auto ?_ | (refine Ob.intro (by (first | exact ⟨by omega, by omega⟩ | exact ⟨_, part_con l i (m.procs.getD i Pr.none).places (by omega) (by omega), by rfl, LeL.refl _⟩)) ?_) | (refine draw_nc (fun _ => rfl) (by kernel_rfl) 300 (by rfl) (by kernel_rfl) ?_) | (refine Br.intro (fun hb => ?_) (fun hb => ?_) <;> (try simp [-List.getD_eq_getElem?_getD] at hb) <;> (try (exfalso; omega))) | refine Ob.intro ?_ ?_))
    ((conv => whnf); refine ⟨i + 1, by omega, ⟨subtA, subtA⟩, ⟨subtA, subtA⟩, ?_⟩; (first | omega | (dsimp only; omega) | skip))
  obtain rfl : i = m.procs.length := by omega
  clear hi hb
  ((conv => whnf); refine loop_keep (fun _ => rfl) 300 2 [1, 2, 4, 5] [0, 1, 5, 7, 8] (fun i : Nat => [(6, iv (m.procs.length + i : Nat)), (8, iv i)]) (fun i => [(6, .row [] 3 1 0 m.vars.length (fun j => [if j < i then iv (trim (partN l (m.procs.length + j : Nat) 256) (m.vars.getD j Vr.none).width) else iv (m.vars.getD j Vr.none).value]))]) (fun i => i ≤ m.vars.length) (fun i => m.vars.length - i) (0) (by omega) subtA subtA (fun _ => rfl) (by kernel_rfl) ?_; (conv => whnf))
  intro i hi
  (repeat' ((conv => whnf); first | refine Ob.auto ?_ | (refine draw_nc (fun _ => rfl) (by kernel_rfl) 300 (by rfl) (by kernel_rfl) ?_) | (refine Br.intro (fun hb => ?_) (fun hb => ?_) <;> (try simp [-List.getD_eq_getElem?_getD] at hb) <;> (try (exfalso; omega))) | refine Ob.intro ?_ ?_))
  · ((conv => whnf); refine draw_ex (fun _ => rfl) (by kernel_rfl) 300 [iv (partN l (m.procs.length + i : Nat) 256), iv (trim (partN l (m.procs.length + i : Nat) 256) (m.vars.getD i Vr.none).width)] (by kernel_rfl) ?_)
    (repeat' ((conv => whnf); first | refine Ob.auto ?_ | (refine Ob.intro (by (first | exact ⟨by omega, by omega⟩ | exact ⟨_, part_con l (m.procs.length + i : Nat) 256 (by omega) (by omega), by rfl, LeL.refl _⟩ | exact ⟨_, rtrim_con _ (m.vars.getD i Vr.none).width, by rfl, LeL.refl _⟩)) ?_) | (refine draw_nc (fun _ => rfl) (by kernel_rfl) 300 (by rfl) (by kernel_rfl) ?_) | (refine Br.intro (fun hb => ?_) (fun hb => ?_) <;> (try simp [-List.getD_eq_getElem?_getD] at hb) <;> (try (exfalso; omega))) | refine Ob.intro ?_ ?_))
    ((conv => whnf); refine ⟨i + 1, by omega, ⟨subtA, subtA⟩, ⟨subtA, subtA⟩, ?_⟩; (first | omega | (dsimp only; omega) | skip))
  obtain rfl : i = m.vars.length := by omega
  clear hi hb
  refine loop_nils 7 3 1 rfl (fun _ _ => rfl) ?_
  ((conv => whnf); refine loop_keep (fun _ => rfl) 300 3 [1, 2, 4, 5] [0, 1, 5, 6, 8] (fun i : Nat => [(6, iv (kAt m l i)), (9, iv i)]) (fun i => [(7, .row [9] 23 1 0 m.chans.length (fun k => [.own 9 k 0 (lenQ (nAt m l) i 0 k)])), (9, .fam 3 1 m.chans.length (fun _ => 0) (lenQ (nAt m l) i 0) (fun k q => [iv (msgAt m l k q)]))]) (fun i => i ≤ m.chans.length) (fun i => m.chans.length - i) (0) (by omega) subtA ⟨row_le (fun k _ => by rw [lenQ_zero]), fam_le (fun _ _ => rfl) (fun k _ => (lenQ_zero _ k).symm) (fun k j _ hj => absurd hj (Nat.not_lt_zero _)), trivial⟩ (fun _ => rfl) (by kernel_rfl) ?_; (conv => whnf))
  intro i hi
  have hci : i < m.chans.length → 0 ≤ (m.chans.getD i Ch.none).room ∧ (m.chans.getD i Ch.none).room ≤ 3 := fun h => hch _ (getD_mem m.chans i Ch.none h)
  have hki := kAt_le m hch l i hi
  (repeat' ((conv => whnf); first | refine Ob.auto ?_ | (refine Ob.intro (by (exact inR_i64 (by have := hci (by omega); simp at *; omega) (by have := hci (by omega); simp at *; omega))) ?_) | (refine draw_nc (fun _ => rfl) (by kernel_rfl) 300 (by rfl) (by kernel_rfl) ?_) | (refine Br.intro (fun hb => ?_) (fun hb => ?_) <;> (try simp [-List.getD_eq_getElem?_getD] at hb) <;> (try (exfalso; omega))) | refine Ob.intro ?_ ?_))
  · have hci := hci (by omega)
    have hpb := partN_bound l (kAt m l i) ((m.chans.getD i Ch.none).room + 1) (by omega)
    have hni : (nAt m l i : Int) = partN l (kAt m l i) ((m.chans.getD i Ch.none).room + 1) := by unfold nAt; omega
    refine call_eq (fun _ => rfl) 300 (res := iv (nAt m l i)) (by rw [hni]; exact part_con l (kAt m l i) ((m.chans.getD i Ch.none).room + 1) (by omega) (by omega)) (by rfl) (by kernel_rfl) ?_
    (repeat' ((conv => whnf); first | refine Ob.auto ?_ | (refine Ob.intro (by (first | exact ⟨by omega, by omega⟩ | exact inR_i64 (by omega) (by omega))) ?_) | (refine draw_nc (fun _ => rfl) (by kernel_rfl) 300 (by rfl) (by kernel_rfl) ?_) | (refine Br.intro (fun hb => ?_) (fun hb => ?_) <;> (try simp [-List.getD_eq_getElem?_getD] at hb) <;> (try (exfalso; omega))) | refine Ob.intro ?_ ?_))
    ((conv => whnf); refine loop_keep (fun _ => rfl) 300 4 [1, 2, 4, 5, 9, 10] [0, 1, 5, 6, 8] (fun q : Nat => [(6, iv (kAt m l i + 1 + q : Nat)), (11, iv q)]) (fun q => [(7, .row [9] 23 1 0 m.chans.length (fun k => [.own 9 k 0 (lenQ (nAt m l) i q k)])), (9, .fam 3 1 m.chans.length (fun _ => 0) (lenQ (nAt m l) i q) (fun k q => [iv (msgAt m l k q)]))]) (fun q => q ≤ nAt m l i) (fun q => nAt m l i - q) (0) (by omega) subtA subtA (fun _ => rfl) (by kernel_rfl) ?_; (conv => whnf))
    intro q hq
    (repeat' ((conv => whnf); first | refine Ob.auto ?_ | (refine Ob.intro (by (first | exact ⟨by omega, by omega⟩ | exact inR_i64 (by omega) (by omega))) ?_) | (refine draw_nc (fun _ => rfl) (by kernel_rfl) 300 (by rfl) (by kernel_rfl) ?_) | (refine Br.intro (fun hb => ?_) (fun hb => ?_) <;> (try simp [-List.getD_eq_getElem?_getD] at hb) <;> (try (exfalso; omega))) | refine Ob.intro ?_ ?_))
    · ((conv => whnf); refine draw3 (fun _ => rfl) (by kernel_rfl) 300 [.con (iv (partN l (kAt m l i + 1 + q : Nat) 256)), .con (iv (msgAt m l i q))] (by kernel_rfl) ?_)
      (repeat' ((conv => whnf); first | refine Ob.auto ?_ | (refine Ob.intro (by (first | exact ⟨by omega, by omega⟩ | exact inR_i64 (by omega) (by omega) | exact ⟨_, part_con l (kAt m l i + 1 + q : Nat) 256 (by omega) (by omega), by rfl, LeL.refl _⟩ | exact ⟨_, rtrim_con _ (m.chans.getD i Ch.none).width, by rfl, LeL.refl _⟩)) ?_) | (refine draw_nc (fun _ => rfl) (by kernel_rfl) 300 (by rfl) (by kernel_rfl) ?_) | (refine Br.intro (fun hb => ?_) (fun hb => ?_) <;> (try simp [-List.getD_eq_getElem?_getD] at hb) <;> (try (exfalso; omega))) | refine Ob.intro ?_ ?_))
      · have hlq : lenQ (nAt m l) i q (i : Int).toNat = q := lenQ_here _ _ _
        refine ⟨by omega, ⟨rfl, rfl⟩, by omega, ?_⟩
        dsimp only
        refine Nat.le_trans (Nat.mul_le_mul_right _ (?_ : _ ≤ 4000001)) (by decide +kernel); omega
      · exact ⟨⟨⟨rfl, rfl⟩, by omega⟩, by omega, by simp [upd], by simp [upd]⟩
      · have hlq : lenQ (nAt m l) i q (i : Int).toNat = q := lenQ_here _ _ _
        ((conv => whnf); refine ⟨q + 1, by omega, ⟨subtA, ⟨⟨⟨rfl, rfl, rfl⟩, rfl, rfl, le_put (by simp [setAll, lenQ_here]; rfl) (fun j _ hne => by have hne' : j ≠ i := hne; simp [lenQ, hne'])⟩, fam_le (fun k _ => by simp [upd]) (fun k _ => by rw [hlq]; exact lenQ_put _ _ _ _) (fun k j _ hj => by rw [hlq] at hj ⊢; exact upd_snoc (g := fun k q => [iv (msgAt m l k q)]) rfl (fun hk => by subst hk; simpa [upd] using hj)), trivial⟩⟩, ⟨subtA, subtA⟩, ?_⟩; (first | omega | (dsimp only; omega) | skip))
    · obtain rfl : q = nAt m l i := by omega
      ((conv => whnf); refine ⟨i + 1, by omega, ⟨subtA, ⟨row_le (fun k _ => by rw [lenQ_next]), fam_le (fun _ _ => rfl) (fun k _ => lenQ_next _ _ _) (fun _ _ _ _ => rfl), trivial⟩⟩, ⟨subtA, subtA⟩, ?_⟩; (first | omega | (dsimp only; omega) | skip))
  · exact ⟨⟨trivial, ⟨rfl, rfl⟩, trivial⟩, ⟨trivial, ⟨rfl, rfl⟩, trivial⟩, ⟨trivial, ⟨rfl, rfl⟩, fun k hk => ⟨⟨hk, ⟨rfl, rfl⟩, trivial⟩, trivial⟩⟩, trivial, trivial⟩
  · obtain rfl : i = m.chans.length := by omega
    refine Le.agg ⟨Le.slc (by simp [heldF]) (fun j hj => ?_), Le.slc (by simp [heldF]) (fun j hj => ?_), Le.slcL (by simp [heldF]) (fun j hj => ?_), Le.refl _, trivial⟩
    · show [if j < m.procs.length then iv (partN l j (m.procs.getD j Pr.none).places) else iv 0] = [iv ((heldF m l).at_.getD j 0)]
      rw [if_pos hj, heldF, getD_range _ _ _ _ hj]
    · show [if j < m.vars.length then iv (trim (partN l (m.procs.length + j : Nat) 256) (m.vars.getD j Vr.none).width) else iv (m.vars.getD j Vr.none).value] = [iv ((heldF m l).vars.getD j 0)]
      rw [if_pos hj, heldF, getD_range _ _ _ _ hj]
    · show LeL [.slc 1 (lenQ (nAt m l) m.chans.length 0 j) (fun q => [iv (msgAt m l j q)])] [ints ((heldF m l).chans.getD j [])]
      rw [lenQ_low _ hj, heldF, getD_range _ _ _ _ hj]
      refine ⟨Le.slc (by simp) (fun q hq => ?_), trivial⟩
      show [iv (msgAt m l j q)] = [iv (((List.range (nAt m l j)).map fun q => msgAt m l j q).getD q 0)]
      rw [getD_range _ _ _ _ hq]

end Go.Proofs.Ytdoaagphhjggbaa
end
