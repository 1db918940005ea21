/- Arguments of this program's types are read as the executor reads them. -/
import Derived.Test.YtdoaagphhjggbaaQ1
import Derived.Test.YtdoaagphhjggbaaQTr0
import Derived.Test.YtdoaagphhjggbaaRows
import Derived.ProofKit
namespace Go.Proofs.Ytdoaagphhjggbaa
open Go Go.Sx Go.RowKit Go.St
set_option maxRecDepth 100000

section
variable {H : Type} {enc : TypeId × Value → H}

theorem max64 : maxLen = 9223372036854775807 := by decide +kernel

theorem rdr_ints : Rdr enc Try.prog 23 (fun ys => ∃ l : List Int, (l.length ≤ maxLen ∧ ∀ n ∈ l, (Lit.int .i64 n).wf = true) ∧ ys = [ints l]) :=
  rdr_slice (en := fun n => [iv n]) Try.underlying23 (by kernel_rfl) (by decide) (fun _ => rfl) (rdr_int Try.underlying3)

theorem rdr_strs : Rdr enc Try.prog 64 (fun ys => ∃ l : List (List UInt8), (l.length ≤ maxLen ∧ ∀ s ∈ l, s.length ≤ maxLen) ∧ ys = [strs l]) :=
  rdr_slice (en := fun s => [.str s]) Try.underlying64 (by kernel_rfl) (by decide) (fun _ => rfl) (rdr_str Try.underlying9)

def ndQ : Nat → AV → Prop
  | 0, y | 4, y => ∃ n : Int, y = iv n
  | 1, y => ∃ l : List (List UInt8), (l.length ≤ maxLen ∧ ∀ s ∈ l, s.length ≤ maxLen) ∧ y = strs l
  | 2, y | 3, y => ∃ l : List Int, l.length ≤ maxLen ∧ y = ints l
  | _, _ => True

theorem rdr_node : Rdr enc Try.prog 72 (fun ys => ∃ n : Nd, NdSz n ∧ ys = n.cells) := by
  refine (rdr_struct (q := ndQ) Try.underlying72 (by kernel_rfl) (fun i f hf => ?_)).mono fun ys hy => ?_
  · match i with
    | 0 => cases hf; exact ⟨⟨rfl, by kernel_rfl⟩, (rdr_int Try.underlying3).mono fun ys ⟨n, _, h⟩ => ⟨_, ⟨n, rfl⟩, h⟩⟩
    | 1 => cases hf; exact ⟨⟨rfl, by kernel_rfl⟩, rdr_strs.mono fun ys ⟨l, h1, h⟩ => ⟨_, ⟨l, h1, rfl⟩, h⟩⟩
    | 2 => cases hf; exact ⟨⟨rfl, by kernel_rfl⟩, rdr_ints.mono fun ys ⟨l, h1, h⟩ => ⟨_, ⟨l, h1.1, rfl⟩, h⟩⟩
    | 3 => cases hf; exact ⟨⟨rfl, by kernel_rfl⟩, rdr_ints.mono fun ys ⟨l, h1, h⟩ => ⟨_, ⟨l, h1.1, rfl⟩, h⟩⟩
    | 4 => cases hf; exact ⟨⟨rfl, by kernel_rfl⟩, (rdr_int Try.underlying3).mono fun ys ⟨n, _, h⟩ => ⟨_, ⟨n, rfl⟩, h⟩⟩
    | i + 5 => simp at hf
  · obtain ⟨h1, h2⟩ := hy
    match ys, h1 with
    | [a, b, c, d, e], _ =>
      obtain ⟨k, rfl⟩ := h2 0 a rfl
      obtain ⟨w, hw, rfl⟩ := h2 1 b rfl
      obtain ⟨ns, hn, rfl⟩ := h2 2 c rfl
      obtain ⟨ks, hk, rfl⟩ := h2 3 d rfl
      obtain ⟨p, rfl⟩ := h2 4 e rfl
      rw [max64] at hw hn hk
      exact ⟨⟨k, w, ns, ks, p⟩, ⟨hw.1, hn, hk, hw.2⟩, rfl⟩

theorem rdr_tree : Rdr enc Try.prog 22 (fun ys => ∃ l : List Nd, (l.length ≤ maxLen ∧ ∀ n ∈ l, NdSz n) ∧ ys = [treeV l]) :=
  rdr_slice (en := Nd.cells) Try.underlying22 (by kernel_rfl) (by decide) (fun _ => rfl) rdr_node

end

end Go.Proofs.Ytdoaagphhjggbaa
