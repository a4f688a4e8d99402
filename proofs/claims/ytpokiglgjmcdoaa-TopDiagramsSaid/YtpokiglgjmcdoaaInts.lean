/-
  Slices of integers in memory; slices.Clone and slices.Clip at them.
-/
import Derived.Test.YtpokiglgjmcdoaaRef6
import Derived.WalkSpells
import Derived.OwnWalk
set_option linter.unusedVariables false
set_option linter.unusedSimpArgs false
namespace Um
open Go Go.RowKit Go.BigFrame

/-- THE SLICE HOLDS THE NUMBERS; its block is of S -/
def IntsAt (S : Nat → Prop) (w : World) (v : Value) (p : List Int) : Prop :=
  (v = .slice none 0 0 ∧ p = []) ∨ ∃ b o cap, v = .slice (some ⟨b, o, none⟩) p.length cap ∧ p.length ≤ cap ∧ cap ≤ 9223372036854775807 ∧ S b ∧ b < w.heap.size ∧
    ∀ j i, p[j]? = some i → w.cell? ⟨b, o + j, none⟩ = some (.int .i64 i)

theorem IntsAt.keeps {S T : Nat → Prop} {w w' : World} {v : Value} {p : List Int} (h : IntsAt S w v p) (hk : Keeps T w w') (hs : ∀ b, S b → b < w.heap.size → T b) : IntsAt S w' v p := by
  rcases h with h | ⟨b, o, cap, h1, h2, h3, h4, h5, h6⟩
  · exact .inl h
  · exact .inr ⟨b, o, cap, h1, h2, h3, h4, Nat.lt_of_lt_of_le h5 hk.size, fun j i hj => hk.cell_of (p := ⟨b, o + j, none⟩) (hs b h4 h5) (h6 j i hj)⟩
theorem IntsAt.same {S : Nat → Prop} {w w' : World} {v : Value} {p : List Int} (h : IntsAt S w v p) (hk : Same w w') : IntsAt S w' v p := h.keeps hk fun _ _ _ => trivial
theorem IntsAt.mono {S T : Nat → Prop} {w : World} {v : Value} {p : List Int} (h : IntsAt S w v p) (hs : ∀ b, S b → b < w.heap.size → T b) : IntsAt T w v p := by
  rcases h with h | ⟨b, o, cap, h1, h2, h3, h4, h5, h6⟩
  · exact .inl h
  · exact .inr ⟨b, o, cap, h1, h2, h3, hs b h4 h5, h5, h6⟩

theorem grown_keeps {S : Nat → Prop} {w w' : World} {row : Option Nat} (hg : w.grownBy w' row) (hr : ∀ k, row = some k → S k → k < w.heap.size → False) : Keeps S w w' := (Keeps.refl S w).grown hg hr

/-- a row that the call owns is a slice of numbers -/
theorem ints_of_owns {w : World} {base : Nat} {e : TypeId} {v : Value} {n : Nat} {p : List Int} (h : w.ownsRow base e 1 v n (p.map (Value.int .i64))) : IntsAt (fun b => base ≤ b) w v p := by
  have hl : p.length = n := by have := h.1; simpa using this
  subst hl
  rcases h.2 with ⟨h1, h2⟩ | ⟨g, cap, cur, h1, h2, h3, h4, h5, h6, h7⟩
  · exact .inl ⟨h1, List.eq_nil_of_length_eq_zero h2⟩
  · refine .inr ⟨g, 0, cap, h1, h4, by unfold maxLen at h5; exact h5, h2, (Array.getElem?_eq_some_iff.1 h3).1, fun j i hj => ?_⟩
    have := h.cells (g := g) (by rw [h1]; rfl) j (.int .i64 i) (by simp [hj])
    rw [← this]; congr 1; unfold Addr.add; split <;> simp_all

end Um
namespace Go.Proofs.Ytpokiglgjmcdoaa
open Go.ChangeShapes Go.WideShapes Go.ChangeAt Go.RowKit Go.BigFrame
open Um

theorem info_int : (Try.prog.info? 3).map (fun i => (i.zero, i.size, i.bytes)) = some (some (.int .i64 0), 1, 8) := by kernel_rfl

theorem clone_any (S : Nat → Prop) (w : World) (v : Value) (p : List Int) (h : IntsAt S w v p) (hp : p.length ≤ 4194304) :
    Calls Try.prog 189 #[v] w fun e w' => ∃ v', e = .returned v' ∧ IntsAt (fun b => w.heap.size ≤ b) w' v' p ∧ Same w w' := by
  obtain ⟨i0, hi, hz0, hz1, hz2⟩ := info_parts info_int
  have q22 : ∀ (w : World) (a : Option Addr) (n c n' c' : Nat), (binOp .eql 33 (.slice a n c) (.slice none n' c')).run Try.prog w = .ok (.bool a.isNone) w := fun w a n c n' c' => Lib.run_eql_slice_nil w _ _ a n c n' c' Try.underlying33
  rcases h with ⟨rfl, rfl⟩ | ⟨b, o, cap, rfl, h2, h3, h4, h5, h6⟩
  · go_enter Try.func189, Try.ntmps189
    go_wp2
    go_ret
    exact ⟨_, rfl, .inl ⟨rfl, rfl⟩, Keeps.refl _ w⟩
  · obtain ⟨n, hn⟩ : ∃ n, n = p.length := ⟨_, rfl⟩
    rw [← hn] at h2 hp
    rw [← hn]
    have HN := Lib.hid hn
    clear hn
    have hx : ∀ j u, (p.map (Value.int .i64))[j]? = some u → (w.alloc (.cells #[] 3)).cell? ((⟨b, o, none⟩ : Addr).add (j)) = some u := by
      intro j u hu
      simp only [List.getElem?_map, Option.map_eq_some_iff] at hu
      obtain ⟨i, hi, rfl⟩ := hu
      have : (⟨b, o, none⟩ : Addr).add j = ⟨b, o + j, none⟩ := by unfold Addr.add; split <;> simp_all
      rw [this]
      exact ((Keeps.refl (fun _ => True) w).alloc _).cell_of trivial (h6 j i hi)
    have HX := Lib.hid hx
    have H6 := Lib.hid h6
    clear hx h6
    go_enter Try.func189, Try.ntmps189
    go_wp2_with (at_builtin; go_must (refine wpList_append_own _ rfl _ _ 33 rfl w.heap.size 3 i0 (.int .i64 0) 1 8 Try.underlying33 hi hz0 hz1 hz2 rfl (by decide) _ _ _ rfl (World.ownsRow_made w #[] 0 (Nat.le_refl _) (by decide) rfl) ⟨b, o, none⟩ n cap (p.map (Value.int .i64)) rfl (by rw [List.length_map, ← HN.out]; omega) HX.out (by simp [Value.oneCell']) (by unfold maxLen; omega) (by omega) (by simp) ?_); intro v' w1 hown' hgrow _)
    go_ret
    refine ⟨_, rfl, ints_of_owns (by simpa using hown'), ?_⟩
    exact ((Keeps.refl _ w).alloc _).grown hgrow (fun k hk _ hl => by cases hk; exact Nat.lt_irrefl _ hl)

theorem clip_any (S : Nat → Prop) (w : World) (v : Value) (p : List Int) (h : IntsAt S w v p) (hp : p.length ≤ 4194304) :
    Calls Try.prog 200 #[v] w fun e w' => ∃ r, e = .returned r ∧ (∃ ao : Option Addr, r = .slice ao p.length p.length ∧ (ao = none → p.length = 0) ∧
      ∀ b, ao = some b → b.block < w.heap.size ∧ ∀ j u, (p.map (Value.int .i64))[j]? = some u → w.cell? (b.add j) = some u) ∧ w' = w := by
  rcases h with ⟨rfl, rfl⟩ | ⟨b, o, cap, rfl, h2, h3, h4, h5, h6⟩
  · go_enter Try.func200, Try.ntmps200
    go_wp2
    go_ret
    exact ⟨_, rfl, ⟨none, rfl, by simp, fun b h => by cases h⟩, rfl⟩
  · have hcells : ∀ b1, some (⟨b, o, none⟩ : Addr) = some b1 → b1.block < w.heap.size ∧ ∀ j u, (p.map (Value.int .i64))[j]? = some u → w.cell? (b1.add j) = some u := by
      intro b1 hb1
      cases hb1
      refine ⟨h5, fun j u hu => ?_⟩
      simp only [List.getElem?_map, Option.map_eq_some_iff] at hu
      obtain ⟨i, hi, rfl⟩ := hu
      have : (⟨b, o, none⟩ : Addr).add j = ⟨b, o + j, none⟩ := by unfold Addr.add; split <;> simp_all
      rw [this]
      exact h6 j i hi
    have HC := Lib.hid hcells
    obtain ⟨n, hn⟩ : ∃ n, n = p.length := ⟨_, rfl⟩
    rw [← hn] at h2 hp
    rw [← hn]
    have HN := Lib.hid hn
    clear hn h6 hcells
    go_enter Try.func200, Try.ntmps200
    go_wp2
    go_ret
    exact ⟨_, rfl, ⟨_, rfl, by simp, HC.out⟩, rfl⟩
end Go.Proofs.Ytpokiglgjmcdoaa
