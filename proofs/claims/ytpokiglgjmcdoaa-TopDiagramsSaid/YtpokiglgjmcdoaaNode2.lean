/-
  (*dia.builder).node, whole; dia.Built.
-/
import Derived.Test.YtpokiglgjmcdoaaNode
set_option linter.unusedVariables false
set_option linter.unusedSimpArgs false
namespace Go.Proofs.Ytpokiglgjmcdoaa
open Go.ChangeShapes Go.WideShapes Go.ChangeAt Go.RowKit Go.BigFrame Go.Shelf Go.Maps
open Um

theorem u8s_take (t : List Nat) (k : Nat) : u8s (t.take k) = (u8s t).take k := by simp [u8s, List.map_take]
theorem u8s_drop (t : List Nat) (k : Nat) : u8s (t.drop k) = (u8s t).drop k := by simp [u8s, List.map_drop]
theorem u8s_length (t : List Nat) : (u8s t).length = t.length := by simp [u8s]
theorem node_any (w0 : World) (ob kb sb B : Nat) : ∀ (m : Nat) (t : List Nat) (v : Nat) (s : Dia.St) (tv : Value) (A : World), v + m = 7 → t.length = 2 ^ m → (∀ x ∈ t, x < 2) → 1 ≤ v → Dia.Inv 6 s → s.1.length + 2 ^ m ≤ 1000 → RowAt (fun _ => True) w0 tv (u8s t) → Bld w0 ob kb sb B s A →
    Calls Try.prog 118 #[.pointer (some ⟨ob, 0, none⟩), tv, .int .i64 v] A (NodePost w0 A ob kb sb B (Dia.node m t v s)) := by
  intro m
  induction m with
  | zero =>
    intro t v s tv A hv ht tx hv1 hi hc htv hB
    exact node_zero w0 A ob kb sb B s hB t (by simpa using ht) tx v (by omega) tv htv
  | succ m ih =>
    intro t v s tv A hv ht tx hv1 hi hc htv hB
    cases hs : s.2 t with
    | some i => exact node_seen w0 A ob kb sb B s hB m t ht (by omega) tx v (by omega) tv htv i hs
    | none =>
      have hp := Nat.two_pow_pos m
      have hp16 : 2 ^ m ≤ 2 ^ 16 := Nat.pow_le_pow_right (by omega) (by omega)
      have ht2 : t.length = 2 ^ m + 2 ^ m := by rw [ht, Nat.pow_succ]; omega
      rw [Nat.pow_succ] at hc
      have hlt : (t.take (2 ^ m)).length = 2 ^ m := by rw [List.length_take]; omega
      have hld : (t.drop (2 ^ m)).length = 2 ^ m := by rw [List.length_drop]; omega
      have htk : ∀ x ∈ t.take (2 ^ m), x < 2 := fun x hx => tx x (List.mem_of_mem_take hx)
      have htd : ∀ x ∈ t.drop (2 ^ m), x < 2 := fun x hx => tx x (List.mem_of_mem_drop hx)
      have m1 := Dia.node_made 6 m (t.take (2 ^ m)) (v + 1) s (by omega) (by omega) hlt htk (by omega) hi
      have n1 := Dia.node_count m (t.take (2 ^ m)) (v + 1) s
      have hr : Dia.node (m + 1) t v s = Dia.node (m + 1) t v s := rfl
      conv at hr => rhs; rw [Dia.node, hs]
      simp only at hr
      obtain ⟨ao, cap, rfl, hcap, hcells⟩ := row_cases htv
      obtain ⟨b, o, x', rfl, _, _, _⟩ := hcells 0 (by rw [u8s_length]; omega)
      rw [u8s_length] at htv ⊢
      have i1 := fun A' => ih (t.take (2 ^ m)) (v + 1) s _ A' (by omega) hlt htk (by omega) hi (by omega) (by rw [u8s_take]; exact row_take htv (2 ^ m) (by omega))
      generalize Dia.node m (t.take (2 ^ m)) (v + 1) s = r1 at *
      have m2 := Dia.node_made 6 m (t.drop (2 ^ m)) (v + 1) r1.2 (by omega) (by omega) hld htd (by omega) m1.inv
      have n2 := Dia.node_count m (t.drop (2 ^ m)) (v + 1) r1.2
      have i2 := fun A' => ih (t.drop (2 ^ m)) (v + 1) r1.2 _ A' (by omega) hld htd (by omega) m1.inv (by omega) (by rw [u8s_drop]; exact row_drop htv (2 ^ m) (by omega))
      generalize Dia.node m (t.drop (2 ^ m)) (v + 1) r1.2 = r2 at *
      have hcap2 : t.length ≤ cap ∧ cap ≤ 9223372036854775807 := by
        rcases htv with ⟨⟨a, c, h, hc'⟩, h2⟩ | ⟨b', o', c', h1, h2, h3, _⟩
        · rw [← u8s_length, h2] at ht2; simp at ht2; omega
        · simp only [Value.slice.injEq, Option.some.injEq, Addr.mk.injEq, and_true] at h1
          rw [u8s_length] at h2
          omega
      have := m1.lt
      have := m2.lt
      exact node_new w0 A ob kb sb B s hB (2 ^ m) t ht2 (by omega) tx v (by omega) b o cap htv hcap2 hs r1.1 r2.1 r1.2 r2.2 (by omega) _ hr (fun A' h' => i1 A' h') (fun A' h' => i2 A' h')

theorem keeps_two {S : Nat → Prop} (w : World) (N M : Nat) (a b c d : Value) (hN : ∀ k, S k → k ≠ N) (hM : ∀ k, S k → k ≠ M) :
    Keeps S w ((((w.setCell ⟨N, 0, none⟩ a).setCell ⟨N, 1, none⟩ b).setCell ⟨M, 0, none⟩ c).setCell ⟨M, 1, none⟩ d) :=
  ((((Keeps.refl S w).setCell (p := ⟨N, 0, none⟩) (fun k hk _ => hN k hk) _).setCell (p := ⟨N, 1, none⟩) (fun k hk _ => hN k hk) _).setCell (p := ⟨M, 0, none⟩) (fun k hk _ => hM k hk) _).setCell (p := ⟨M, 1, none⟩) (fun k hk _ => hM k hk) _
theorem ChsAt.keeps {S T : Nat → Prop} {w w' : World} {v : Value} {cs : List Dia.Ch} (h : ChsAt S w v cs) (hk : Keeps T w w') (hs : ∀ b, S b → T b) : ChsAt S w' v cs := by
  obtain ⟨ao, cap, h1, h2⟩ := h
  refine ⟨ao, cap, h1, fun j c hc => ?_⟩
  obtain ⟨b, o, e, hb, h3, h4, h5⟩ := h2 j c hc
  exact ⟨b, o, e, hb, hk.cell_of (S := T) (hs b hb) h3, hk.cell_of (S := T) (hs b hb) h4, hk.cell_of (S := T) (hs b hb) h5⟩
theorem ChsAt.mono {S T : Nat → Prop} {w : World} {v : Value} {cs : List Dia.Ch} (h : ChsAt S w v cs) (hs : ∀ b, S b → T b) : ChsAt T w v cs := by
  obtain ⟨ao, cap, h1, h2⟩ := h
  refine ⟨ao, cap, h1, fun j c hc => ?_⟩
  obtain ⟨b, o, e, hb, h3⟩ := h2 j c hc
  exact ⟨b, o, e, hs b hb, h3⟩
theorem chsAt_of_owns {w : World} {B : Nat} {v : Value} {cs : List Dia.Ch} (h : w.ownsRow B 136 3 v cs.length (chCells cs)) : ChsAt (fun b => B ≤ b) w v cs := by
  rcases Nat.eq_zero_or_pos cs.length with h0 | h0
  · obtain rfl := List.eq_nil_of_length_eq_zero h0
    rcases h.2 with ⟨rfl, _⟩ | ⟨g, cap, cur, rfl, _⟩
    · exact ⟨none, 0, rfl, fun j c hc => by simp at hc⟩
    · exact ⟨_, _, rfl, fun j c hc => by simp at hc⟩
  · obtain ⟨g, cap, rfl, h1, h2⟩ := h.form h0
    refine ⟨_, _, rfl, fun j c hc => ⟨g, 0, rfl, h1, ?_⟩⟩
    have hj : j < cs.length := (List.getElem?_eq_some_iff.1 hc).1
    obtain ⟨a0, a1, a2⟩ := chCells_at cs j c hc
    rw [Nat.zero_add]
    exact ⟨(h.cellAt (j * 3) (by omega)).trans a0, (h.cellAt (j * 3 + 1) (by omega)).trans a1, (h.cellAt (j * 3 + 2) (by omega)).trans a2⟩

theorem bld_start (w : World) (o1 o2 : Obj) (ty : Nat) : Bld w (w.heap.size + 1 + 1 + 1 + 1) (w.heap.size + 1 + 1) (w.heap.size + 1 + 1 + 1) (w.heap.size + 1 + 1 + 1 + 1 + 1) ([], fun _ => none)
      (((((w.alloc o1).alloc o2).alloc (.map #[] 0)).alloc (.map #[] 0)).alloc (.cells #[.slice none 0 0, .map (some (w.heap.size + 1 + 1)), .map (some (w.heap.size + 1 + 1 + 1))] ty)) ∧
    Off (((((w.alloc o1).alloc o2).alloc (.map #[] 0)).alloc (.map #[] 0)).alloc (.cells #[.slice none 0 0, .map (some (w.heap.size + 1 + 1)), .map (some (w.heap.size + 1 + 1 + 1))] ty)) (w.heap.size + 1 + 1 + 1 + 1) (w.heap.size + 1 + 1) (w.heap.size + 1 + 1 + 1) w.heap.size ∧
    Off (((((w.alloc o1).alloc o2).alloc (.map #[] 0)).alloc (.map #[] 0)).alloc (.cells #[.slice none 0 0, .map (some (w.heap.size + 1 + 1)), .map (some (w.heap.size + 1 + 1 + 1))] ty)) (w.heap.size + 1 + 1 + 1 + 1) (w.heap.size + 1 + 1) (w.heap.size + 1 + 1 + 1) (w.heap.size + 1) ∧
    (((((w.alloc o1).alloc o2).alloc (.map #[] 0)).alloc (.map #[] 0)).alloc (.cells #[.slice none 0 0, .map (some (w.heap.size + 1 + 1)), .map (some (w.heap.size + 1 + 1 + 1))] ty)).heap[w.heap.size]? = some o1 ∧
    (((((w.alloc o1).alloc o2).alloc (.map #[] 0)).alloc (.map #[] 0)).alloc (.cells #[.slice none 0 0, .map (some (w.heap.size + 1 + 1)), .map (some (w.heap.size + 1 + 1 + 1))] ty)).heap[w.heap.size + 1]? = some o2 := by
  obtain ⟨W1, h1⟩ : ∃ W1, W1 = w.alloc o1 := ⟨_, rfl⟩
  have s1 : W1.heap.size = w.heap.size + 1 := by rw [h1]; simp
  obtain ⟨W2, h2⟩ : ∃ W2, W2 = W1.alloc o2 := ⟨_, rfl⟩
  have s2 : W2.heap.size = w.heap.size + 1 + 1 := by rw [h2]; simp [s1]
  obtain ⟨W3, h3⟩ : ∃ W3, W3 = W2.alloc (.map #[] 0) := ⟨_, rfl⟩
  have s3 : W3.heap.size = w.heap.size + 1 + 1 + 1 := by rw [h3]; simp [s2]
  obtain ⟨W4, h4⟩ : ∃ W4, W4 = W3.alloc (.map #[] 0) := ⟨_, rfl⟩
  have s4 : W4.heap.size = w.heap.size + 1 + 1 + 1 + 1 := by rw [h4]; simp [s3]
  rw [← h1, ← h2, ← h3, ← h4]
  obtain ⟨W5, h5⟩ : ∃ W5, W5 = W4.alloc (.cells #[.slice none 0 0, .map (some (w.heap.size + 1 + 1)), .map (some (w.heap.size + 1 + 1 + 1))] ty) := ⟨_, rfl⟩
  have s5 : W5.heap.size = w.heap.size + 1 + 1 + 1 + 1 + 1 := by rw [h5]; simp [s4]
  rw [← h5]
  have k1 : Same w W1 := by rw [h1]; exact (Keeps.refl _ _).alloc _
  have k2 : Same W1 W2 := by rw [h2]; exact (Keeps.refl _ _).alloc _
  have k3 : Same W2 W3 := by rw [h3]; exact (Keeps.refl _ _).alloc _
  have k4 : Same W3 W4 := by rw [h4]; exact (Keeps.refl _ _).alloc _
  have k5 : Same W4 W5 := by rw [h5]; exact (Keeps.refl _ _).alloc _
  have hb : W5.heap[w.heap.size + 1 + 1 + 1 + 1]? = some (.cells #[.slice none 0 0, .map (some (w.heap.size + 1 + 1)), .map (some (w.heap.size + 1 + 1 + 1))] ty) := by
    rw [h5, ← s4]; exact heap_alloc_new W4 _
  obtain ⟨c0, c1, c2, f0, _, _⟩ := cells3 hb
  have m1 : MapIs chKey chOk natVal W5 (w.heap.size + 1 + 1) (Dia.known []) := by
    have : MapIs chKey chOk natVal W3 (w.heap.size + 1 + 1) (fun _ => none) := by rw [h3, ← s2]; exact MapIs.made W2
    exact ((this.same k4).same k5).congr fun x => by simp [Dia.known]
  have m2 : MapIs tabKey tabOk natVal W5 (w.heap.size + 1 + 1 + 1) (fun _ => none) := by
    have : MapIs tabKey tabOk natVal W4 (w.heap.size + 1 + 1 + 1) (fun _ => none) := by rw [h4, ← s3]; exact MapIs.made W3
    exact this.same k5
  have b1 : W5.heap[w.heap.size]? = some o1 := by
    have e1 : W1.heap[w.heap.size]? = some o1 := by rw [h1]; exact heap_alloc_new w o1
    exact ((((k2.trans k3).trans k4).trans k5).block _ trivial (by omega)).trans e1
  have b2 : W5.heap[w.heap.size + 1]? = some o2 := by
    have e1 : W2.heap[w.heap.size + 1]? = some o2 := by rw [h2, ← s1]; exact heap_alloc_new W1 o2
    exact (((k3.trans k4).trans k5).block _ trivial (by omega)).trans e1
  refine ⟨⟨(((k1.trans k2).trans k3).trans k4).trans k5, by omega, ⟨_, c0, World.ownsRow_nil _ _ _ _⟩, c1, c2, f0, m1, m2⟩, ⟨by omega, by omega, by omega, ?_⟩, ⟨by omega, by omega, by omega, ?_⟩, b1, b2⟩
  · intro cv hc; rw [c0] at hc; cases hc; simp [Value.ownBlock]
  · intro cv hc; rw [c0] at hc; cases hc; simp [Value.ownBlock]
theorem cells2 {w : World} {N ty : Nat} {a b : Value} (h : w.heap[N]? = some (.cells #[a, b] ty)) : w.cell? ⟨N, 0, none⟩ = some a ∧ w.cell? ⟨N, 1, none⟩ = some b ∧ w.frozen? ⟨N, 0, none⟩ = false ∧ w.frozen? ⟨N, 1, none⟩ = false := by
  simp [World.cell?, World.frozen?, h]

set_option maxRecDepth 100000 in
theorem built_any (w : World) (tv : Value) (t : List Nat) (ht : t.length = 64) (tx : ∀ x ∈ t, x < 2) (htv : RowAt (fun _ => True) w tv (u8s t)) :
    Calls Try.prog 69 #[tv] w fun e w' => ∃ v, e = .returned (.tuple #[.agg #[v, .int .i64 ((Dia.built 6 t).2 : Int)], .agg #[.int .i64 0, .int .i64 0]]) ∧ ChsAt (fun b => w.heap.size ≤ b) w' v (Dia.built 6 t).1 ∧ Same w w' := by
  have hmm := @run_makeMap Try.prog
  have hnode := fun A hB => node_any w (w.heap.size + 1 + 1 + 1 + 1) (w.heap.size + 1 + 1) (w.heap.size + 1 + 1 + 1) (w.heap.size + 1 + 1 + 1 + 1 + 1) 6 t 1 ([], fun _ => none) tv A (by omega) (by simpa using ht) tx (by omega) (Dia.inv_start 6) (by decide) htv hB
  have hcount := Dia.node_count 6 t 1 ([], fun _ => none)
  have hb : Dia.built 6 t = ((Dia.node 6 t 1 ([], fun _ => none)).2.1, (Dia.node 6 t 1 ([], fun _ => none)).1) := rfl
  rw [hb]
  generalize Dia.node 6 t 1 ([], fun _ => none) = r at *
  obtain ⟨root, cs, sn⟩ := r
  simp only [List.length_nil] at hcount
  clear hb ht tx htv
  have HN := Lib.hid hnode
  clear hnode
  go_enter Try.func69, Try.ntmps69
  go_wp2_with fail
  obtain ⟨hB, o1, o2, b1, b2⟩ := bld_start w (.cells #[.slice none 0 0, .int .i64 0] 45) (.cells #[.int .i64 0, .int .i64 0] 27) 193
  refine (HN.out _ hB).mono ?_
  rintro e w1 ⟨rfl, hB1, hS1⟩
  have y1 := (hS1.block o1 (by simp only [World.size_alloc]; omega)).trans b1
  have y2 := (hS1.block o2 (by simp only [World.size_alloc]; omega)).trans b2
  obtain ⟨p1, p2, p3, p4⟩ := cells2 y1
  obtain ⟨q1, q2, q3, q4⟩ := cells2 y2
  obtain ⟨cv, hcv, hown⟩ := hB1.c0
  have hch := chsAt_of_owns hown
  obtain ⟨ao, cap, hv, hat⟩ := hch
  have HAT := Lib.hid hat
  have HOW := Lib.hid hown
  have HSM := Lib.hid hB1.same
  obtain ⟨len, hlen⟩ : ∃ len, len = cs.length := ⟨_, rfl⟩
  subst hv
  simp only at hcv
  rw [← hlen] at hcv hcount
  have hl2 : len ≤ 63 := by omega
  have HL := Lib.hid hlen
  clear hlen hat hown hB1 hS1 y1 y2 hB o1 o2 b1 b2 hcount
  go_wp2
  refine bodyPost_ret (v := .tuple #[.agg #[.slice ao len cap, .int .i64 (root : Int)], .agg #[.int .i64 0, .int .i64 0]]) (by simp [results, Try.results69, go_sem, p1, p2, q1, q2]) rfl ⟨_, rfl, ?_, ?_⟩
  · rw [HL.out]
    have h : ChsAt (fun b => w.heap.size + 1 + 1 + 1 + 1 + 1 ≤ b) w1 (.slice ao cs.length cap) cs := ⟨ao, cap, rfl, HAT.out⟩
    refine (h.keeps (T := fun b => w.heap.size + 1 < b) ?_ fun b hb => by omega).mono fun b hb => by omega
    exact keeps_two (S := fun b => w.heap.size + 1 < b) w1 _ _ _ _ _ _ (fun k (hk : w.heap.size + 1 < k) => by omega) (fun k (hk : w.heap.size + 1 < k) => by omega)
  · refine HSM.out.through (S := fun b => b < w.heap.size) ?_ (fun b hb => hb)
    exact keeps_two (S := fun b => b < w.heap.size) w1 _ _ _ _ _ _ (fun k (hk : k < w.heap.size) => by omega) (fun k (hk : k < w.heap.size) => by omega)
end Go.Proofs.Ytpokiglgjmcdoaa
