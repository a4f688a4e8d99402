/-
  Slices of one-cell elements in memory; K.Picked, K.Var.
-/
import Derived.Test.YtpokiglgjmcdoaaInts
import Derived.Laws.OwnMore
import Derived.IntWalk
set_option linter.unusedVariables false
set_option linter.unusedSimpArgs false
namespace Um
open Go Go.RowKit Go.BigFrame

/-- THE SLICE HOLDS THE VALUES, one cell each; its block is of S -/
def RowAt (S : Nat → Prop) (w : World) (v : Value) (l : List Value) : Prop :=
  ((∃ a cap, v = .slice a 0 cap ∧ cap ≤ 9223372036854775807) ∧ l = []) ∨ ∃ b o cap, v = .slice (some ⟨b, o, none⟩) l.length cap ∧ l.length ≤ cap ∧ cap ≤ 9223372036854775807 ∧ S b ∧ b < w.heap.size ∧
    ∀ j u, l[j]? = some u → w.cell? ⟨b, o + j, none⟩ = some u
theorem RowAt.keeps {S T : Nat → Prop} {w w' : World} {v : Value} {l : List Value} (h : RowAt S w v l) (hk : Keeps T w w') (hs : ∀ b, S b → b < w.heap.size → T b) : RowAt S w' v l := by
  rcases h with h | ⟨b, o, cap, h1, h2, h3, h4, h5, h6⟩
  · exact .inl h
  · exact .inr ⟨b, o, cap, h1, h2, h3, h4, Nat.lt_of_lt_of_le h5 hk.size, fun j i hj => hk.cell_of (p := ⟨b, o + j, none⟩) (hs b h4 h5) (h6 j i hj)⟩
theorem RowAt.same {S : Nat → Prop} {w w' : World} {v : Value} {l : List Value} (h : RowAt S w v l) (hk : Same w w') : RowAt S w' v l := h.keeps hk fun _ _ _ => trivial
theorem RowAt.mono {S T : Nat → Prop} {w : World} {v : Value} {l : List Value} (h : RowAt S w v l) (hs : ∀ b, S b → b < w.heap.size → T b) : RowAt T w v l := by
  rcases h with h | ⟨b, o, cap, h1, h2, h3, h4, h5, h6⟩
  · exact .inl h
  · exact .inr ⟨b, o, cap, h1, h2, h3, hs b h4 h5, h5, h6⟩
theorem rowAt_of_owns {w : World} {base : Nat} {e : TypeId} {v : Value} {n : Nat} {l : List Value} (h : w.ownsRow base e 1 v n l) : RowAt (fun b => base ≤ b) w v l := by
  have hl : l.length = n := by have := h.1; simpa using this
  subst hl
  rcases h.2 with ⟨h1, h2⟩ | ⟨g, cap, cur, h1, h2, h3, h4, h5, h6, h7⟩
  · exact .inl ⟨⟨none, 0, by rw [h1], by decide⟩, List.eq_nil_of_length_eq_zero h2⟩
  · refine .inr ⟨g, 0, cap, h1, h4, by unfold maxLen at h5; exact h5, h2, (Array.getElem?_eq_some_iff.1 h3).1, fun j i hj => ?_⟩
    have := h.cells (g := g) (by rw [h1]; rfl) j i hj
    rw [← this]; congr 1; unfold Addr.add; split <;> simp_all
end Um
namespace Go.Proofs.Ytpokiglgjmcdoaa
open Go.ChangeShapes Go.WideShapes Go.ChangeAt Go.RowKit Go.BigFrame
open Um

theorem picked_any (a n : Int) (ha : I64 a) (hn : 0 < n ∧ n ≤ 4294967296) (w : World) :
    Calls Try.prog 29 #[.int .i64 a, .int .i64 n] w fun e w' => e = .returned (.int .i64 (a % n)) ∧ w' = w := by
  unfold I64 at ha
  have h0 := Int.tmod_eq_emod (a := a) (b := n)
  have h1 := Int.emod_nonneg a (show n ≠ 0 by omega)
  have h2 := Int.emod_lt_of_pos a hn.1
  have h4 : a.tmod n < n ∧ -n < a.tmod n ∧ a % n = if a.tmod n < 0 then a.tmod n + n else a.tmod n := by
    rw [h0]
    split
    · refine ⟨by omega, by omega, ?_⟩
      rw [if_neg (by omega)]; omega
    · refine ⟨by omega, by omega, ?_⟩
      rw [if_pos (by omega)]; omega
  clear h0 h1 h2
  obtain ⟨h1, h2, h3⟩ := h4
  have hne : n ≠ 0 := by omega
  have hb : (n == 0) = false := by simp [hne]
  have H3 := Lib.hid h3
  clear h3
  by_cases hlt : a.tmod n < 0
  · go_enter Try.func29, Try.ntmps29
    go_wp2
    go_ret
    exact ⟨ret_int (by rw [H3.out, if_pos hlt]), rfl⟩
  · go_enter Try.func29, Try.ntmps29
    go_wp2
    go_ret
    exact ⟨ret_int (by rw [H3.out, if_neg (by omega)]), rfl⟩

theorem kvar_any (a : Int) (ha : -4294967296 ≤ a ∧ a ≤ 4294967296) (w : World) :
    Calls Try.prog 76 #[.int .i64 a] w fun e w' => e = .returned (.int .i64 a.natAbs) ∧ w' = w := by
  by_cases hlt : a < 0
  · have H : Hid ((a.natAbs : Int) = -a) := Lib.hid (by omega)
    go_enter Try.func76, Try.ntmps76
    go_wp2
    go_ret
    exact ⟨ret_int (by rw [H.out]), rfl⟩
  · have H : Hid ((a.natAbs : Int) = a) := Lib.hid (by omega)
    go_enter Try.func76, Try.ntmps76
    go_wp2
    go_ret
    exact ⟨ret_int (by rw [H.out]), rfl⟩

theorem cvar_any (a : Int) (ha : -4294967296 ≤ a ∧ a ≤ 4294967296) (w : World) :
    Calls Try.prog 143 #[.int .i64 a] w fun e w' => e = .returned (.int .i64 a.natAbs) ∧ w' = w := by
  have H : Hid ((a.natAbs : Int) = max a (-a)) := Lib.hid (by omega)
  go_enter Try.func143, Try.ntmps143
  go_wp2
  all_goals
    go_ret
    exact ⟨ret_int (by rw [H.out]; omega), rfl⟩
end Go.Proofs.Ytpokiglgjmcdoaa
