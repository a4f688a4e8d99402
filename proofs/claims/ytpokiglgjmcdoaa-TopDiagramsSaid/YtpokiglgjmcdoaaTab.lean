/-
  dia.tableOf, dia.Combined, dia.Not's loop.
-/
import Derived.Test.YtpokiglgjmcdoaaChs
set_option linter.unusedVariables false
set_option linter.unusedSimpArgs false
namespace Go.Proofs.Ytpokiglgjmcdoaa
open Go.ChangeShapes Go.WideShapes Go.ChangeAt Go.RowKit Go.BigFrame Go.Shelf
open Um

/-- the table of a diagram over six variables -/
def diaTab (cs : List Dia.Ch) (root : Nat) : List Nat := tableL 6 fun a => Dia.val cs (asgOf a) root root

theorem tableOf_any (cs : List Dia.Ch) (root : Nat) (hwf : Dia.WF 6 cs) (hr : root < cs.length + 2) (hl : cs.length ≤ 4000) (S : Nat → Prop) (w : World) (u : Value) (hu : ChsAt S w u cs) :
    Calls Try.prog 75 #[.int .i64 6, .agg #[u, .int .i64 root]] w fun e w' => ∃ v, e = .returned v ∧ w'.ownsRow w.heap.size 5 1 v 64 ((diaTab cs root).map fun x : Nat => Value.int .u8 (x : Int)) ∧ Same w w' := by
  obtain ⟨uo, ucap, rfl, hch⟩ := hu
  have hu : ChsAt S w (.slice uo cs.length ucap) cs := ⟨uo, ucap, rfl, hch⟩
  have hS0 : Same w (w.alloc (.cells #[.slice uo cs.length ucap, .int .i64 root] 45)) := (Keeps.refl _ w).alloc _
  have hone : ∀ (a : List Bool) (v : Value) (A : World), a.length = 6 → RowAt (fun b => (w.alloc (.cells #[.slice uo cs.length ucap, .int .i64 root] 45)).heap.size < b) A v (a.map Value.bool) → Same (w.alloc (.cells #[.slice uo cs.length ucap, .int .i64 root] 45)) A →
      Calls Try.prog 127 (#[v] ++ #[.pointer (some ⟨w.heap.size, 0, none⟩)]) A fun e w' => e = .returned (.bool (Dia.val cs (asgOf a) root root)) ∧ Same A w' := by
    intro a v A ha hv hA
    have c0 : A.cell? ⟨w.heap.size, 0, none⟩ = some (.slice uo cs.length ucap) := hA.cell_of trivial (by simp)
    have c1 : A.cell? ⟨w.heap.size, 1, none⟩ = some (.int .i64 root) := hA.cell_of trivial (by simp)
    have hc := value_any cs root hwf hr hl a ha (fun b => True) A v _ (hv.mono fun _ _ _ => trivial) (by
      obtain ⟨ao, cap, h1, h2⟩ := (hu.same hS0).same hA
      refine ⟨ao, cap, h1, fun j c hc => ?_⟩
      obtain ⟨b, o, e, _, h3⟩ := h2 j c hc
      exact ⟨b, o, e, trivial, h3⟩)
    obtain ⟨n, hn⟩ : ∃ n, n = cs.length := ⟨_, rfl⟩
    rw [← hn] at c0 hc
    clear hv hu hch hA hS0 hwf hn
    go_enter Try.func127, Try.ntmps127
    go_wp2_with fail
    refine hc.mono ?_
    rintro e w1 ⟨rfl, hS1⟩
    go_wp2
    go_ret
    exact ⟨rfl, hS1⟩
  have hc := made_any 127 #[.pointer (some ⟨w.heap.size, 0, none⟩)] (enters_of Try.func127 (by kernel_rfl) rfl) (fun a => Dia.val cs (asgOf a) root root) _ hone
  obtain ⟨n, hn⟩ : ∃ n, n = cs.length := ⟨_, rfl⟩
  rw [← hn] at hc hS0
  rw [← hn]
  clear hone hu hch hwf hn
  go_enter Try.func75, Try.ntmps75
  go_wp2_with fail
  refine hc.mono ?_
  rintro e w1 ⟨v, rfl, hown, hS1⟩
  go_wp2
  go_ret
  exact ⟨_, rfl, own_base hown (by simp), hS0.trans hS1⟩

def u8s (l : List Nat) : List Value := l.map fun x : Nat => Value.int .u8 (x : Int)

theorem clone_tab (S : Nat → Prop) (w : World) (v : Value) (l : List Nat) (h : RowAt S w v (u8s l)) (hl : l.length = 64) :
    Calls Try.prog 126 #[v] w fun e w' => ∃ v', e = .returned v' ∧ w'.ownsRow w.heap.size 5 1 v' 64 (u8s l) ∧ Same w w' := by
  obtain ⟨i0, hi, hz0, hz1, hz2⟩ := info_parts info_u8
  have q22 : ∀ (w : World) (a : Option Addr) (n c n' c' : Nat), (binOp .eql 129 (.slice a n c) (.slice none n' c')).run Try.prog w = .ok (.bool a.isNone) w := fun w a n c n' c' => Lib.run_eql_slice_nil w _ _ a n c n' c' Try.underlying129
  obtain ⟨ao, cap, rfl, _, hc⟩ := row_cases h
  have h64 : (u8s l).length = 64 := by simp [u8s, hl]
  rw [h64] at hc ⊢
  obtain ⟨b, o, x, rfl, _, _, _⟩ := hc 0 (by omega)
  have hx : ∀ j u, (u8s l)[j]? = some u → (w.alloc (.cells #[] 5)).cell? ((⟨b, o, none⟩ : Addr).add (j)) = some u := by
    intro j u hu
    have hj : j < 64 := by have := (List.getElem?_eq_some_iff.1 hu).1; omega
    obtain ⟨b1, o1, x1, e1, e2, e3, _⟩ := hc j hj
    cases e1
    rw [e2] at hu; cases hu
    have : (⟨b, o, none⟩ : Addr).add j = ⟨b, o + j, none⟩ := by unfold Addr.add; split <;> simp_all
    rw [this]
    exact ((Keeps.refl (fun _ => True) w).alloc _).cell_of trivial e3
  have h1c : ∀ u ∈ u8s l, u.oneCell' = true := by
    intro u hu
    obtain ⟨y, _, rfl⟩ := List.mem_map.1 hu
    rfl
  obtain ⟨L, hL⟩ : ∃ L, L = u8s l := ⟨_, rfl⟩
  rw [← hL] at hx h1c h64
  rw [← hL]
  have HX := Lib.hid hx
  have H1 := Lib.hid h1c
  have H64 := Lib.hid h64
  clear hx hc h1c h64 h hL
  go_enter Try.func126, Try.ntmps126
  go_wp2_with (at_builtin; go_must (refine wpList_append_own _ rfl _ _ 129 rfl w.heap.size 5 i0 (.int .u8 0) 1 1 Try.underlying129 hi hz0 hz1 hz2 rfl (by decide) _ _ _ rfl (World.ownsRow_made w #[] 0 (Nat.le_refl _) (by decide) rfl) ⟨b, o, none⟩ 64 cap L rfl H64.out HX.out H1.out (by unfold maxLen; omega) (by omega) (by simp) ?_); intro v' w1 hown' hgrow _)
  go_ret
  refine ⟨_, rfl, by simpa using hown', ?_⟩
  exact ((Keeps.refl _ w).alloc _).grown hgrow (fun k hk _ hl => by cases hk; exact Nat.lt_irrefl _ hl)
end Go.Proofs.Ytpokiglgjmcdoaa
