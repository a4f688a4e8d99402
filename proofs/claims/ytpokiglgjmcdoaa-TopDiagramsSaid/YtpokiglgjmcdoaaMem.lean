/-
  How plain terms lie in memory, and what keeps them there: no function of the program in sight.
-/
import Derived.Test.YtpokiglgjmcdoaaTr
import Derived.WalkKit
import Derived.ProofKit
import Derived.OpenShut
import Derived.Below
import Derived.WalkSmall
import Derived.Lib.QuietBelow
import Derived.BigQuiet
set_option linter.unusedVariables false
set_option linter.unusedSimpArgs false
namespace Um
open Go Go.RowKit Go.BigFrame

/-- an integer that a 64-bit one can be -/
def I64 (n : Int) : Prop := -9223372036854775808 ≤ n ∧ n ≤ 9223372036854775807

/-- the blocks of S are as they were -/
structure Keeps (S : Nat → Prop) (w w' : World) : Prop where
  os : w'.os = w.os
  tape : w'.tape = w.tape
  output : w'.output = w.output
  size : w.heap.size ≤ w'.heap.size
  block : ∀ k, S k → k < w.heap.size → w'.heap[k]? = w.heap[k]?

namespace Keeps
variable {S T : Nat → Prop} {a b c w w' : World}
theorem refl (S : Nat → Prop) (w : World) : Keeps S w w := ⟨rfl, rfl, rfl, Nat.le_refl _, fun _ _ _ => rfl⟩
theorem trans (h : Keeps S a b) (k : Keeps S b c) : Keeps S a c :=
  ⟨k.os.trans h.os, k.tape.trans h.tape, k.output.trans h.output, Nat.le_trans h.size k.size, fun i hi hl => (k.block i hi (Nat.lt_of_lt_of_le hl h.size)).trans (h.block i hi hl)⟩
theorem mono (h : Keeps S a b) (hs : ∀ k, T k → k < a.heap.size → S k) : Keeps T a b := ⟨h.os, h.tape, h.output, h.size, fun k hk hl => h.block k (hs k hk hl) hl⟩
theorem drew (h : Keeps S a w) : Keeps S a w.drew := ⟨h.os, h.tape, h.output, h.size, h.block⟩
theorem drewN (h : Keeps S a w) (n : Nat) : Keeps S a (w.drewN n) := ⟨h.os, h.tape, h.output, h.size, h.block⟩
theorem alloc (h : Keeps S a w) (o : Obj) : Keeps S a (w.alloc o) :=
  h.trans ⟨rfl, rfl, rfl, by simp, fun k _ hk => Below.heap_alloc _ _ _ hk⟩
theorem setCell (h : Keeps S a w) {p : Addr} (hp : ∀ k, S k → k < a.heap.size → k ≠ p.block) (u : Value) : Keeps S a (w.setCell p u) :=
  ⟨h.os, h.tape, h.output, by simp only [World.setCell, Array.size_modify]; exact h.size, fun k hk hl => (Below.heap_setCell _ _ _ _ (hp k hk hl)).trans (h.block k hk hl)⟩
theorem grown {row : Option Nat} (h : Keeps S a w) (hg : w.grownBy w' row) (hr : ∀ k, row = some k → S k → k < a.heap.size → False) : Keeps S a w' :=
  ⟨hg.os.trans h.os, hg.tape.trans h.tape, hg.output.trans h.output, Nat.le_trans h.size hg.size,
    fun k hk hl => (hg.block k (Nat.lt_of_lt_of_le hl h.size) (fun e => hr k e.symm hk hl)).trans (h.block k hk hl)⟩
theorem below (h : Keeps (fun _ => True) a b) : Below a.heap.size a b := ⟨h.os, h.tape, h.output, h.size, fun k hk => h.block k trivial hk⟩
theorem cell (h : Keeps S a b) {p : Addr} (hp : S p.block) (hl : p.block < a.heap.size) : b.cell? p = a.cell? p := World.cell?_of_block (w := a) (h.block p.block hp hl)
theorem cell_of (h : Keeps S a b) {p : Addr} {v : Value} (hp : S p.block) (hc : a.cell? p = some v) : b.cell? p = some v :=
  (h.cell hp (World.block_lt_of_cell? a p hc)).trans hc
theorem frozen (h : Keeps S a b) {p : Addr} (hp : S p.block) (hl : p.block < a.heap.size) : b.frozen? p = a.frozen? p := World.frozen?_of_block (w := a) (h.block p.block hp hl)
end Keeps
/-- all that was there is as it was -/
abbrev Same (w w' : World) : Prop := Keeps (fun _ => True) w w'
theorem Same.of_below {a b : World} (h : Below a.heap.size a b) : Same a b := ⟨h.os, h.tape, h.output, h.size, fun k _ hk => h.block k hk⟩
theorem Same.keeps {S : Nat → Prop} {a b : World} (h : Same a b) : Keeps S a b := h.mono fun _ _ _ => trivial

theorem Keeps.cellB {B : Nat} {a b : World} (h : Keeps (fun k => k < B) a b) {p : Addr} {v : Value} (hc : a.cell? p = some v) (hp : p.block < B) : b.cell? p = some v := h.cell_of (S := fun k => k < B) hp hc
theorem Keeps.frozenB {B : Nat} {a b : World} (h : Keeps (fun k => k < B) a b) {p : Addr} {x : Bool} (hf : a.frozen? p = x) (hp : p.block < B) (hl : p.block < a.heap.size) : b.frozen? p = x := (h.frozen (S := fun k => k < B) hp hl).trans hf
theorem Same.keepsB {B : Nat} {w a b : World} (h : Same w a) (hk : Keeps (fun k => k < B) a b) (hB : w.heap.size ≤ B) : Same w b :=
  ⟨hk.os.trans h.os, hk.tape.trans h.tape, hk.output.trans h.output, Nat.le_trans h.size hk.size, fun k _ hl => (hk.block k (Nat.lt_of_lt_of_le hl hB) (Nat.lt_of_lt_of_le hl h.size)).trans (h.block k trivial hl)⟩

theorem Same.through {S : Nat → Prop} {w a b : World} (h : Same w a) (hk : Keeps S a b) (hS : ∀ k, k < w.heap.size → S k) : Same w b :=
  ⟨hk.os.trans h.os, hk.tape.trans h.tape, hk.output.trans h.output, Nat.le_trans h.size hk.size, fun k _ hl => (hk.block k (hS k hl) (Nat.lt_of_lt_of_le hl h.size)).trans (h.block k trivial hl)⟩

/-- THE TERM LIES IN MEMORY: its head is the first cell, the slice of its kids the second one; its blocks are of S -/
def TrAt (S : Nat → Prop) (w : World) : Tr → Value → Value → Prop
  | .mk h ks, c0, c1 => c0 = .int .i64 h ∧ I64 h ∧ ∃ (a : Option Addr) (n cap : Nat), n = ks.length ∧ c1 = .slice a n cap ∧ kidsAt S w ks a 0
where kidsAt (S : Nat → Prop) (w : World) : List Tr → Option Addr → Nat → Prop
  | [], _, _ => True
  | k :: ks, a, i => (∃ b o c0 c1, a = some ⟨b, o, none⟩ ∧ S b ∧ w.cell? ⟨b, o + i * 2, none⟩ = some c0 ∧ w.cell? ⟨b, o + i * 2 + 1, none⟩ = some c1 ∧ TrAt S w k c0 c1) ∧ kidsAt S w ks a (i + 1)

theorem kidsAt_iff {S : Nat → Prop} {w : World} {ks : List Tr} {a : Option Addr} {i : Nat} : TrAt.kidsAt S w ks a i ↔
    ∀ j k, ks[j]? = some k → ∃ b o c0 c1, a = some ⟨b, o, none⟩ ∧ S b ∧ w.cell? ⟨b, o + (i + j) * 2, none⟩ = some c0 ∧ w.cell? ⟨b, o + (i + j) * 2 + 1, none⟩ = some c1 ∧ TrAt S w k c0 c1 := by
  induction ks generalizing i with
  | nil => simp [TrAt.kidsAt]
  | cons x xs ih =>
    simp only [TrAt.kidsAt, ih]
    constructor
    · rintro ⟨h0, h⟩ j k hj
      cases j with
      | zero => simp only [List.getElem?_cons_zero, Option.some.injEq] at hj; subst hj; exact h0
      | succ j =>
        have := h j k (by simpa using hj)
        rwa [show i + 1 + j = i + (j + 1) from by omega] at this
    · intro h
      refine ⟨h 0 x (by simp), fun j k hj => ?_⟩
      have := h (j + 1) k (by simpa using hj)
      rwa [show i + (j + 1) = i + 1 + j from by omega] at this

theorem trAt_iff {S : Nat → Prop} {w : World} {t : Tr} {c0 c1 : Value} : TrAt S w t c0 c1 ↔
    c0 = .int .i64 t.head ∧ I64 t.head ∧ ∃ (a : Option Addr) (n cap : Nat), n = t.kids.length ∧ c1 = .slice a n cap ∧
      ∀ j k, t.kids[j]? = some k → ∃ b o c0 c1, a = some ⟨b, o, none⟩ ∧ S b ∧ w.cell? ⟨b, o + j * 2, none⟩ = some c0 ∧ w.cell? ⟨b, o + j * 2 + 1, none⟩ = some c1 ∧ TrAt S w k c0 c1 := by
  cases t with
  | mk h ks => simp only [TrAt, kidsAt_iff, Nat.zero_add, Tr.head_mk, Tr.kids_mk]

/-- it lies there still, where its blocks are as they were -/
theorem TrAt.keeps {S T : Nat → Prop} {w w' : World} {t : Tr} {c0 c1 : Value} (h : TrAt S w t c0 c1) (hk : Keeps T w w') (hs : ∀ b, S b → b < w.heap.size → T b) : TrAt S w' t c0 c1 := by
  induction t using Tr.ind generalizing c0 c1 with
  | step t ih =>
    rw [trAt_iff] at h ⊢
    obtain ⟨h0, hi, a, n, cap, hn, h1, h2⟩ := h
    refine ⟨h0, hi, a, n, cap, hn, h1, fun j k hj => ?_⟩
    obtain ⟨b, o, x0, x1, ha, hb, e0, e1, hx⟩ := h2 j k hj
    have hlt : b < w.heap.size := World.block_lt_of_cell? w ⟨b, o + j * 2, none⟩ e0
    exact ⟨b, o, x0, x1, ha, hb, hk.cell_of (p := ⟨b, o + j * 2, none⟩) (hs b hb hlt) e0, hk.cell_of (p := ⟨b, o + j * 2 + 1, none⟩) (hs b hb hlt) e1, ih k (List.mem_of_getElem? hj) hx⟩
theorem TrAt.same {S : Nat → Prop} {w w' : World} {t : Tr} {c0 c1 : Value} (h : TrAt S w t c0 c1) (hk : Same w w') : TrAt S w' t c0 c1 := h.keeps hk fun _ _ _ => trivial
/-- the blocks of a term that lies are there: S may be cut down to them -/
theorem TrAt.mono {S T : Nat → Prop} {w : World} {t : Tr} {c0 c1 : Value} (h : TrAt S w t c0 c1) (hs : ∀ b, S b → b < w.heap.size → T b) : TrAt T w t c0 c1 := by
  induction t using Tr.ind generalizing c0 c1 with
  | step t ih =>
    rw [trAt_iff] at h ⊢
    obtain ⟨h0, hi, a, n, cap, hn, h1, h2⟩ := h
    refine ⟨h0, hi, a, n, cap, hn, h1, fun j k hj => ?_⟩
    obtain ⟨b, o, x0, x1, ha, hb, e0, e1, hx⟩ := h2 j k hj
    exact ⟨b, o, x0, x1, ha, hs b hb (World.block_lt_of_cell? w ⟨b, o + j * 2, none⟩ e0), e0, e1, ih k (List.mem_of_getElem? hj) hx⟩

/-- two rules for the walk: what was there reads as before -/
theorem bcell {W w1 : World} (hb : Same W w1) : (∀ b o, b < W.heap.size → w1.cell? ⟨b, o, none⟩ = W.cell? ⟨b, o, none⟩) ∧ (∀ b o, b < W.heap.size → w1.frozen? ⟨b, o, none⟩ = W.frozen? ⟨b, o, none⟩) :=
  ⟨fun b o h => hb.cell (p := ⟨b, o, none⟩) trivial h, fun b o h => hb.frozen (p := ⟨b, o, none⟩) trivial h⟩

/-- the world behind draws and new blocks -/
def ext (w : World) (p : Regrown) : World := Go.Sort.grow (redrawn w p.d) p.os
theorem same_ext (w : World) (p : Regrown) : Same w (ext w p) := Same.of_below (below_regrown w p.d p.os)
theorem ext_of_same {w w' : World} (h : Same w w') : ∃ p, w' = ext w p := regrown_of_below h.below
theorem cell_ext {w : World} {a : Addr} {v : Value} (h : w.cell? a = some v) : ∀ p, (ext w p).cell? a = some v := fun p => cell_regrown h p.d p.os
theorem wp_region_ext {P : Program} {id : Nat} {Q : Exit → Act → World → Prop} {a : Act} {w : World} {l : List Oper} (hm : P.follows .mixedOrders = true) (hB : Region.lexB .any l.toArray = true)
    (h : wpQuiet P l.toArray (fun w' => ∃ p : Regrown, w' = ext w p) (fun a' => ∀ w', (∃ p : Regrown, w' = ext w p) → Q .normal a' w') l a) : (Code.region id l.toArray true).wp P Q a w := wp_region_quiet_below hm hB h
theorem ext_calls {P : Program} {f : FuncId} {args : Array Value} {w : World} {p : Regrown} {v : Value} (h : Calls P f args (ext w p) fun e w' => e = .returned v ∧ Same (ext w p) w') :
    Calls P f args (ext w p) fun e w'' => e = .returned v ∧ ∃ q : Regrown, w'' = ext w q :=
  h.mono fun _ _ ⟨he, hs⟩ => ⟨he, ext_of_same ((same_ext w p).trans hs)⟩

end Um
