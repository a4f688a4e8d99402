/-
  umpiragetop.TopDiagrams, walked.
-/
import Derived.Test.YtpokiglgjmcdoaaSame
import Derived.Deep.DeepCutAuto
import Derived.Deep.RegionHeld3
import Derived.Deep.DrawnRows
set_option linter.unusedVariables false
set_option linter.unusedSimpArgs false
namespace Go.Proofs.Ytpokiglgjmcdoaa
open Go.ChangeShapes Go.WideShapes Go.ChangeAt Go.RowKit Go.BigFrame Go.Shelf Go.Maps
open Um
attribute [local go_sem ↓] Go.wp_at_zero Go.wp_at_succ

/-- 'append' of an owned row (nil, too) to an owned row, as one step of a region that draws -/
theorem step_append_rows {P : Program} {ops : Array Oper} {o : Oper} {a : Act} {w : World} {K : Act → World → Prop} {Q : Exit → Act → World → Prop} {E : Prop}
    (hg : o.guard = none) (s x : Operand) (t : TypeId) (hop : o.op = Op.call { callee := Callee.builtin Builtin.append, args := #[s, x], argTypes := #[t, t] })
    (base : Nat) (e : TypeId) (i : TypeInfo) (z : Value) (bytes : Nat) (h1 : P.underlying t = some (.slice e)) (h2 : P.info? e = some i) (h3 : i.zero = some z) (h4 : i.size = 1) (h5 : i.bytes = bytes) (h6 : z.cells.size = 1)
    (v : Value) (n : Nat) (xs : List Value) (hs : a.eval s = v) (hown : w.ownsRow base e 1 v n xs)
    (src : Value) (base2 m : Nat) (news : List Value) (hx : a.eval x = src) (hsrc : w.ownsRow base2 e 1 src m news) (h1c : ∀ u ∈ news, u.oneCell' = true)
    (b1 : n + m ≤ maxLen) (b2 : (n + m) * bytes ≤ 140737488355328) (hb : base ≤ w.heap.size)
    (hK : ∀ v' w', w'.ownsRow base e 1 v' (n + m) (xs ++ news) → w.grownBy w' v.ownBlock → K (a.put o.dst v') w') :
    if Region.wanted o (yielded ops a.tmps) = true then Oper.wp P o a w K Q else E := by
  rw [if_pos (by simp [Region.wanted, hg])]
  have hlen : news.length = m := by simpa using hsrc.1
  rcases hsrc.2 with ⟨hv, hm⟩ | ⟨g, cap, cur, hv, _, hgb, hmc, _, _, htake⟩
  · subst hm
    obtain rfl : news = [] := List.eq_nil_of_length_eq_zero hlen
    have hrun := run_append_owned_none (P := P) (w := w) base t o.type e i 1 h1 h2 v n xs hown
    unfold Oper.wp
    simp [execOp, hop, resolve, invoke, builtin, hs, hx, hv, hrun, Result.andThen]
    exact hK v w (by simpa using hown) ⟨rfl, rfl, rfl, Nat.le_refl _, fun _ _ _ => rfl⟩
  · have hc : ∀ j u, news[j]? = some u → w.cell? ((⟨g, 0, none⟩ : Addr).add j) = some u := hsrc.cells (by rw [hv]; rfl)
    obtain ⟨v', w', hrun, r1, r2, _⟩ := run_append_own (P := P) w base t o.type e i z 1 bytes h1 h2 h3 h4 h5 h6 (by omega) v n xs hown ⟨g, 0, none⟩ m cap news (by omega) hc h1c b1 b2 hb
    unfold Oper.wp
    simp [execOp, hop, resolve, invoke, builtin, hs, hx, hv, hrun, Result.andThen]
    exact hK v' w' r1 r2

theorem clsOk6 {cls : List (List Int)} (h : ∀ p ∈ cls, ClOk 6 3 p) {cls2 : List (List Int)} (h2 : ∀ p ∈ cls2, ClOk 6 3 p) : ∀ p ∈ cls ++ cls2, ClOk 6 3 p := by
  intro p hp
  rcases List.mem_append.1 hp with hp | hp
  · exact h p hp
  · exact h2 p hp
theorem allL_append (a : List Bool) (x y : List (List Int)) : allL a (x ++ y) = (allL a x && allL a y) := by
  unfold allL; simp [Bool.not_or]
theorem ofL_both (x y : List (List Int)) : Dia.built 6 (Dia.andL (Dia.diaTab 6 (ofL x)) (Dia.diaTab 6 (ofL y))) = ofL (x ++ y) := by
  unfold ofL
  rw [Dia.both_law (by omega)]
  congr 2
  funext a; rw [allL_append]
theorem ofL_not (x : List (List Int)) : Dia.built 6 (Dia.notL (Dia.diaTab 6 (Dia.built 6 (Dia.notL (Dia.diaTab 6 (ofL x)))))) = ofL x := Dia.not_law (by omega) _
theorem ofL_good (x : List (List Int)) : Dia.Good 6 (ofL x) := Dia.built_good (by omega) (Dia.tableL_length 6 _) (Dia.tableL_bits 6 _)
theorem not_good (x : List (List Int)) : Dia.Good 6 (Dia.built 6 (Dia.notL (Dia.diaTab 6 (ofL x)))) := Dia.built_good (by omega) ((notL_length _).trans (Dia.tableL_length 6 _)) (notL_bits _)
theorem one_len : (ofL [[1]]).1.length = 1 := by
  have : (fun a => allL a [[1]]) = fun a : List Bool => a.getD 0 false := by
    funext a; simp [allL, satL, litTrue]
  unfold ofL
  rw [this]
  exact Dia.one_law

theorem same_own {W Z y Z' : World} {base : Nat} {e : TypeId} {v : Value} {n : Nat} {xs : List Value} (hX : Same W Z) (hg : Z.grownBy y v.ownBlock) (hown : Z'.ownsRow base e 1 v n xs) (hb : W.heap.size ≤ base) : Same W y :=
  hX.grown hg (fun k hk _ hl => by have := (hown.lt k hk).1; omega)
theorem far_own {Z y Z' : World} {base N : Nat} {e : TypeId} {v : Value} {n : Nat} {xs : List Value} {o : Obj} (h : Z.heap[N]? = some o) (hg : Z.grownBy y v.ownBlock) (hown : Z'.ownsRow base e 1 v n xs) (hb : N < base ∨ Z'.heap.size ≤ N) : y.heap[N]? = some o :=
  (hg.block N (Array.getElem?_eq_some_iff.1 h).1 (fun e => by have := hown.lt N e.symm; omega)).trans h
theorem one_slices {w : World} {vals : List Value} {cls : List (List Int)} (hl : vals.length = cls.length) (h : ∀ (j : Nat) (u : Value) (p : List Int), vals[j]? = some u → cls[j]? = some p → ∃ base, w.ownsRow base 3 1 u p.length (p.map (Value.int .i64))) : ∀ u ∈ vals, u.oneCell' = true := by
  intro u hu
  obtain ⟨j, hj⟩ := List.getElem?_of_mem hu
  obtain ⟨p, hp⟩ : ∃ p, cls[j]? = some p := ⟨_, List.getElem?_eq_getElem (by rw [← hl]; exact (List.getElem?_eq_some_iff.1 hj).1)⟩
  obtain ⟨base, hb⟩ := h j u p hj hp
  obtain ⟨ao, cap, rfl, _⟩ := own_slice hb
  rfl

theorem clsAt_two {w : World} {base n : Nat} {v : Value} {vals1 vals2 : List Value} {cls1 cls2 : List (List Int)} (h : w.ownsRow base 33 1 v n (vals1 ++ vals2)) (h1 : vals1.length = cls1.length) (h2 : vals2.length = cls2.length)
    (k1 : ∀ (j : Nat) (u : Value) (p : List Int), vals1[j]? = some u → cls1[j]? = some p → RowAt (fun _ => True) w u (p.map (Value.int .i64))) (k2 : ∀ (j : Nat) (u : Value) (p : List Int), vals2[j]? = some u → cls2[j]? = some p → RowAt (fun _ => True) w u (p.map (Value.int .i64))) :
    ClsAt (fun _ => True) w v (cls1 ++ cls2) := by
  refine ⟨vals1 ++ vals2, (rowAt_of_owns h).mono fun _ _ _ => trivial, by simp [h1, h2], fun j u p hj hp => ?_⟩
  rw [List.getElem?_append] at hj hp
  split at hj
  · rename_i hlt
    rw [if_pos (by omega)] at hp
    exact k1 j u p hj hp
  · rename_i hlt
    rw [if_neg (by omega), ← h1] at hp
    exact k2 _ u p hj hp
theorem cls_one (X : World) (t1 t2 : TypeId) : ClsAt (fun _ => True) ((X.alloc (.cells #[.int .i64 1] t1)).alloc (.cells #[.slice (some ⟨X.heap.size, 0, none⟩) 1 1] t2)) (.slice (some ⟨(X.alloc (.cells #[.int .i64 1] t1)).heap.size, 0, none⟩) 1 1) [[1]] := by
  obtain ⟨W1, h1⟩ : ∃ W1, W1 = X.alloc (.cells #[.int .i64 1] t1) := ⟨_, rfl⟩
  rw [← h1]
  have e1 : W1.heap[X.heap.size]? = some (.cells #[.int .i64 1] t1) := by rw [h1]; exact heap_alloc_new X _
  have s1 : X.heap.size < W1.heap.size := by rw [h1]; simp
  have k : Same W1 (W1.alloc (.cells #[.slice (some ⟨X.heap.size, 0, none⟩) 1 1] t2)) := (Keeps.refl _ _).alloc _
  obtain ⟨c1, _⟩ := cell1 (heap_alloc_new W1 (.cells #[.slice (some ⟨X.heap.size, 0, none⟩) 1 1] t2))
  obtain ⟨c2, _⟩ := cell1 ((k.block _ trivial s1).trans e1)
  refine ⟨[.slice (some ⟨X.heap.size, 0, none⟩) 1 1], .inr ⟨W1.heap.size, 0, 1, rfl, by simp, by decide, trivial, by simp, ?_⟩, rfl, ?_⟩
  · intro j u hj
    cases j with
    | zero => simp at hj; subst hj; exact c1
    | succ j => simp at hj
  · intro j u p hj hp
    cases j with
    | zero =>
      simp at hj hp
      subst hj hp
      refine .inr ⟨X.heap.size, 0, 1, rfl, by simp, by decide, trivial, Nat.lt_of_lt_of_le s1 k.size, ?_⟩
      intro j u hj
      cases j with
      | zero => simp at hj; subst hj; exact c2
      | succ j => simp at hj
    | succ j => simp at hj
theorem top_over {w W y2 : World} {l : List (Nat × Obj)} {base n N : Nat} {zo : Option Addr} {zc : Nat} {vals1 vals2 : List Value} {cls1 cls2 : List (List Int)} (hB : Boxes w W l) (X2 : Same W y2) (hown : y2.ownsRow base 33 1 (.slice zo n zc) n (vals1 ++ vals2)) (hN : W.heap.size ≤ N)
    (hy : y2.heap[N]? = some (.cells #[.int .i64 0, .slice none 0 0] 41)) (h1 : vals1.length = cls1.length) (h2 : vals2.length = cls2.length) (hn : n = (cls1 ++ cls2).length)
    (k1 : ∀ X, Same W X → ∀ (j : Nat) (u : Value) (p : List Int), vals1[j]? = some u → cls1[j]? = some p → RowAt (fun _ => True) X u (p.map (Value.int .i64))) (k2 : ∀ X, Same W X → ∀ (j : Nat) (u : Value) (p : List Int), vals2[j]? = some u → cls2[j]? = some p → RowAt (fun _ => True) X u (p.map (Value.int .i64))) :
    Boxes w ((y2.setCell ⟨N, 0, none⟩ (.int .i64 6)).setCell ⟨N, 1, none⟩ (.slice zo n zc)) ((N, .cells #[.int .i64 6, .slice zo (cls1 ++ cls2).length zc] 41) :: l) ∧
    Same W ((y2.setCell ⟨N, 0, none⟩ (.int .i64 6)).setCell ⟨N, 1, none⟩ (.slice zo n zc)) ∧ ClsAt (fun _ => True) ((y2.setCell ⟨N, 0, none⟩ (.int .i64 6)).setCell ⟨N, 1, none⟩ (.slice zo n zc)) (.slice zo (cls1 ++ cls2).length zc) (cls1 ++ cls2) := by
  subst hn
  have k : Keeps (fun k => k ≠ N) y2 ((y2.setCell ⟨N, 0, none⟩ (.int .i64 6)).setCell ⟨N, 1, none⟩ (.slice zo (cls1 ++ cls2).length zc)) :=
    ((Keeps.refl _ y2).setCell (p := ⟨N, 0, none⟩) (fun k hk _ => hk) _).setCell (p := ⟨N, 1, none⟩) (fun k hk _ => hk) _
  have hX : Same W ((y2.setCell ⟨N, 0, none⟩ (.int .i64 6)).setCell ⟨N, 1, none⟩ (.slice zo (cls1 ++ cls2).length zc)) := X2.through k (fun j hj => by omega)
  have hb := setCell_block (v := .slice zo (cls1 ++ cls2).length zc) (i := 1) (setCell_block (v := .int .i64 6) (i := 0) hy)
  refine ⟨⟨hB.1.trans hX, fun x hx => ?_⟩, hX, ?_⟩
  · rcases List.mem_cons.1 hx with rfl | hx
    · exact ⟨Nat.le_trans hB.1.size hN, hb⟩
    · exact (hB.after hX).2 x hx
  · have ho := hown.kept k.grownBy (by
      cases hv : (Value.slice zo (cls1 ++ cls2).length zc).ownBlock with
      | none => exact .inl rfl
      | some g =>
        right; intro e; cases e
        obtain ⟨cur, hc⟩ := own_elem hown hv
        rw [hy] at hc
        simp at hc)
    exact clsAt_two ho h1 h2 (k1 _ hX) (k2 _ hX)

set_option maxHeartbeats 1600000 in
set_option maxRecDepth 100000 in
theorem top_any (w : World) (va vb : Value) (la lb : List Int) (ha : RowAt (fun _ => True) w va (la.map (Value.int .i64))) (hb : RowAt (fun _ => True) w vb (lb.map (Value.int .i64))) (ia : ∀ x ∈ la, I64 x) (ib : ∀ x ∈ lb, I64 x) :
    Calls Try.prog 5 #[va, vb] w fun e w' => e = .returned (.bool true) ∧ Same w w' := by
  obtain ⟨i0, hi0, hz0, hz1, hz2⟩ := info_parts info_ints
  have HA := Lib.hid (cnfOf_any va la 6 8 _ w ha ia (by omega) (by omega))
  have HB := Lib.hid fun W (hW : Same w W) => cnfOf_any vb lb 6 8 _ W (hb.same hW) ib (by omega) (by omega)
  clear ha hb ia ib
  go_enter Try.func5, Try.ntmps5
  go_wp2_with fail
  refine HA.out.mono ?_
  rintro e w1 ⟨r1, cls1, rfl, ⟨vals1, hv1, hvs1⟩, hn1, ho1, hS1⟩
  obtain ⟨ao, cap1, rfl, _, _, _⟩ := own_slice hv1
  have B1 := Lib.hid ((((Boxes.nil w).after hS1).alloc (.cells #[.int .i64 6, .slice ao cls1.length cap1] 41)))
  have HV1 := Lib.hid hv1
  have HVS1 := Lib.hid hvs1
  have HO1 := Lib.hid ho1
  clear HA hv1 hvs1 ho1 hS1
  go_wp2_with fail
  refine (HB.out _ B1.out.1).mono ?_
  rintro e w2 ⟨r2, cls2, rfl, ⟨vals2, hv2, hvs2⟩, hn2, ho2, hS2⟩
  obtain ⟨bo, cap2, rfl, _, _, _⟩ := own_slice hv2
  have B2 := Lib.hid (((B1.out.after hS2).alloc (.cells #[.int .i64 6, .slice bo cls2.length cap2] 41)))
  have HV2 := Lib.hid hv2
  have HVS2 := Lib.hid hvs2
  have HO2 := Lib.hid ho2
  have HS2 := Lib.hid hS2
  clear HB hv2 hvs2 ho2 hS2
  go_upto_region 3 with fail
  obtain ⟨W, hW⟩ : ∃ W, W = w2.alloc (.cells #[.int .i64 6, .slice bo cls2.length cap2] 41) := ⟨_, rfl⟩
  have hwW : Same w2 W := by rw [hW]; exact (Keeps.refl _ _).alloc _
  have hsW : W.heap.size = w2.heap.size + 1 := by rw [hW]; simp
  rw [← hW] at B2 ⊢
  clear hW
  have h12 := HS2.out.size
  simp only [World.size_alloc] at h12
  obtain ⟨_, x1, _, _⟩ := cells2 (B2.out.at (i := w1.heap.size) (o := .cells #[.int .i64 6, .slice ao cls1.length cap1] 41) (by simp))
  obtain ⟨_, x2, _, _⟩ := cells2 (B2.out.at (i := w2.heap.size) (o := .cells #[.int .i64 6, .slice bo cls2.length cap2] 41) (by simp))
  have h1W : Same w1 W := (((Keeps.refl (fun _ => True) w1).alloc _).trans HS2.out).trans hwW
  have hl1 : vals1.length = cls1.length := by simpa using HV1.out.1
  have hl2 : vals2.length = cls2.length := by simpa using HV2.out.1
  have KS : Hid (∀ X, Same W X → X.cell? ⟨w1.heap.size, 1, none⟩ = some (.slice ao cls1.length cap1) ∧ X.cell? ⟨w2.heap.size, 1, none⟩ = some (.slice bo cls2.length cap2)) := Lib.hid fun X hX => ⟨hX.cell_of trivial x1, hX.cell_of trivial x2⟩
  have KB : Hid (∀ X Y, Same W X → Keeps (fun k => k < W.heap.size) X Y → Y.cell? ⟨w1.heap.size, 1, none⟩ = some (.slice ao cls1.length cap1) ∧ Y.cell? ⟨w2.heap.size, 1, none⟩ = some (.slice bo cls2.length cap2)) :=
    Lib.hid fun X Y hX hY => ⟨hY.cell_of (S := fun k => k < W.heap.size) (show w1.heap.size < W.heap.size by omega) (hX.cell_of trivial x1), hY.cell_of (S := fun k => k < W.heap.size) (show w2.heap.size < W.heap.size by omega) (hX.cell_of trivial x2)⟩
  have KV1 : Hid (∀ X, Same W X → X.ownsRow w.heap.size 33 1 (.slice ao cls1.length cap1) cls1.length vals1) := Lib.hid fun X hX => HV1.out.kept (same_grown (h1W.trans hX)) own_ne
  have KV2 : Hid (∀ X, Same W X → X.ownsRow _ 33 1 (.slice bo cls2.length cap2) cls2.length vals2) := Lib.hid fun X hX => HV2.out.kept (same_grown (hwW.trans hX)) own_ne
  have O1 := Lib.hid (one_slices hl1 (fun j u p hj hp => ⟨_, HVS1.out j u p hj hp⟩))
  have O2 := Lib.hid (one_slices hl2 (fun j u p hj hp => ⟨_, HVS2.out j u p hj hp⟩))
  have HVS1' : Hid (∀ X, Same W X → ∀ (j : Nat) (u : Value) (p : List Int), vals1[j]? = some u → cls1[j]? = some p → RowAt (fun _ => True) X u (p.map (Value.int .i64))) := Lib.hid fun X hX j u p hj hp => ((rowAt_of_owns (HVS1.out j u p hj hp)).mono fun _ _ _ => trivial).same (h1W.trans hX)
  have HVS2' : Hid (∀ X, Same W X → ∀ (j : Nat) (u : Value) (p : List Int), vals2[j]? = some u → cls2[j]? = some p → RowAt (fun _ => True) X u (p.map (Value.int .i64))) := Lib.hid fun X hX j u p hj hp => ((rowAt_of_owns (HVS2.out j u p hj hp)).mono fun _ _ _ => trivial).same (hwW.trans hX)
  have HLEN := Lib.hid (And.intro hl1 hl2)
  have HBX := Lib.hid (And.intro (show w1.heap.size < W.heap.size by omega) (show w2.heap.size < W.heap.size by omega))
  clear hwW h1W hl1 hl2 x1 x2 HV1 HV2 HVS1 HVS2 HS2 hsW B1 h12
  generalize w1.heap.size = xb at *
  generalize w2.heap.size = yb at *
  go_cut [7] (fun s7 wx => ∃ (g : Nat) (zo : Option Addr) (zc : Nat), s7 = .pointer (some ⟨g, 0, none⟩) ∧ Boxes w wx [(g, .cells #[.int .i64 6, .slice zo (cls1 ++ cls2).length zc] 41), (yb, .cells #[.int .i64 6, .slice bo cls2.length cap2] 41), (xb, .cells #[.int .i64 6, .slice ao cls1.length cap1] 41)] ∧
    Same W wx ∧ ClsAt (fun _ => True) wx (.slice zo (cls1 ++ cls2).length zc) (cls1 ++ cls2))
  case first =>
    go_region_held3 (fun X => X.cell? ⟨xb, 1, none⟩ = some (.slice ao cls1.length cap1) ∧ X.cell? ⟨yb, 1, none⟩ = some (.slice bo cls2.length cap2))
      (first
        | (refine KS.out _ ?_; (repeat (first | exact Keeps.refl _ _ | exact X2 | exact X1 | refine Keeps.drew ?_ | refine Keeps.alloc ?_ _)); done)
        | (refine KB.out y2 _ X2 ?_; (refine Keeps.setCell (p := ⟨_, _, none⟩) ?_ (fun k hk _ => Nat.ne_of_lt (Nat.lt_of_lt_of_le hk (by first | exact XN | exact Nat.le_refl _))) _); (refine Keeps.setCell (p := ⟨_, _, none⟩) ?_ (fun k hk _ => Nat.ne_of_lt (Nat.lt_of_lt_of_le hk (by first | exact XN | exact Nat.le_refl _))) _); exact Keeps.refl _ _))
      (first
        | (refine step_append_rows (by rfl) (.const (.slice none 0 0)) (.tmp 27) 39 (by rfl) _ 33 i0 _ 24 Try.underlying39 hi0 hz0 hz1 hz2 (by rfl) (.slice none 0 0) 0 [] (by rfl) (World.ownsRow_nil _ _ _ _) _ _ cls1.length vals1 (by rfl) (KV1.out _ (by repeat (first | exact Keeps.refl _ _ | refine Keeps.drew ?_ | refine Keeps.alloc ?_ _))) O1.out (by unfold maxLen; omega) (by omega) (Nat.le_refl _) ?_; intro v1 y1 hown1 hgrow1; have X1 : Same W y1 := Keeps.grown (by repeat (first | exact Keeps.refl _ _ | refine Keeps.drew ?_ | refine Keeps.alloc ?_ _)) hgrow1 (fun k hk _ _ => by cases hk); have X1b := hgrow1.size; have XN := X1.size; (first | (have yz : y1.heap[W.heap.size]? = some (.cells #[.int .i64 0, .slice none 0 0] 41) := (hgrow1.block _ (by simp) (by simp [Value.ownBlock])).trans (by exact heap_alloc_new W _)) | skip))
        | (refine step_append_rows (by rfl) (.tmp 28) (.tmp 30) 39 (by rfl) _ 33 i0 _ 24 Try.underlying39 hi0 hz0 hz1 hz2 (by rfl) v1 _ _ (by rfl) (by first | exact hown1 | exact hown1.alloc _) _ _ cls2.length vals2 (by rfl) (KV2.out _ (by repeat (first | exact X1 | refine Keeps.drew ?_ | refine Keeps.alloc ?_ _))) O2.out (by unfold maxLen; omega) (by omega) (by first | exact X1b | exact Nat.le_trans X1b (by simp)) ?_; intro v2 y2 hown2 hgrow2; obtain ⟨zo, zc, rfl, _, _, _⟩ := own_slice hown2; have X2 : Same W y2 := same_own (by repeat (first | exact X1 | refine Keeps.alloc ?_ _)) hgrow2 hown1 (by simp); (first | (have yz2 := far_own yz hgrow2 hown1 (.inl (by simp)); obtain ⟨u1, u2, u3, u4⟩ := cells2 yz2) | (have yz2 : y2.heap[y1.heap.size]? = some (.cells #[.int .i64 0, .slice none 0 0] 41) := far_own (heap_alloc_new y1 _) hgrow2 hown1 (.inr (Nat.le_refl _)); obtain ⟨u1, u2, u3, u4⟩ := cells2 yz2) | skip)))
    · go_wp2_with fail
      go_meet
      have hX := X2.alloc (.cells #[.int .i64 6, .slice zo (cls1.length + cls2.length) zc] 41)
      have hn : (cls1 ++ cls2).length = cls1.length + cls2.length := by simp
      refine ⟨y2.heap.size, zo, zc, rfl, ?_, hX, ?_⟩
      · rw [hn]
        refine ⟨B2.out.1.trans hX, fun x hx => ?_⟩
        rcases List.mem_cons.1 hx with rfl | hx
        · exact ⟨Nat.le_trans B2.out.1.size X2.size, heap_alloc_new y2 _⟩
        · exact (B2.out.after hX).2 x hx
      · rw [hn]
        have ho := hown2.alloc (.cells #[.int .i64 6, .slice zo (cls1.length + cls2.length) zc] 41)
        simp only [Nat.zero_add, List.nil_append] at ho
        exact clsAt_two ho HLEN.out.1 HLEN.out.2 (HVS1'.out _ hX) (HVS2'.out _ hX)
    · go_wp2_with fail
      go_meet
      simp only [Nat.zero_add, List.nil_append] at hown2
      have h := top_over B2.out X2 hown2 XN yz2 HLEN.out.1 HLEN.out.2 (by simp) HVS1'.out HVS2'.out
      exact ⟨_, zo, zc, rfl, h.1, h.2.1, h.2.2⟩
    · go_wp2_with fail
      go_meet
      simp only [Nat.zero_add, List.nil_append] at hown2
      have h := top_over B2.out X2 hown2 (Nat.le_refl _) yz2 HLEN.out.1 HLEN.out.2 (by simp) HVS1'.out HVS2'.out
      exact ⟨_, zo, zc, rfl, h.1, h.2.1, h.2.2⟩
  case rest =>
    obtain ⟨g, zo, zc, rfl, hB3, hSW, hCL⟩ := hcut
    have hlen3 : (cls1 ++ cls2).length ≤ 400 := by simp; omega
    have OFA := Lib.hid fun X (hX : Same wc X) => of_any cls1 HO1.out (by omega) X (.slice ao cls1.length cap1) ⟨vals1, (rowAt_of_owns (KV1.out X (hSW.trans hX))).mono fun _ _ _ => trivial, HLEN.out.1, HVS1'.out X (hSW.trans hX)⟩
    have OFB := Lib.hid fun X (hX : Same wc X) => of_any cls2 HO2.out (by omega) X (.slice bo cls2.length cap2) ⟨vals2, (rowAt_of_owns (KV2.out X (hSW.trans hX))).mono fun _ _ _ => trivial, HLEN.out.2, HVS2'.out X (hSW.trans hX)⟩
    have OFC := Lib.hid fun X (hX : Same wc X) => of_any (cls1 ++ cls2) (clsOk6 HO1.out HO2.out) hlen3 X (.slice zo (cls1 ++ cls2).length zc) (hCL.same hX)
    have OF1 := Lib.hid fun X v (h : ClsAt (fun _ => True) X v [[1]]) => of_any [[1]] (by intro p hp; simp at hp; subst hp; exact ⟨by simp, by simp, by simp⟩) (by simp) X v h
    have BO := Lib.hid fun X u1 u2 (h1 : ChsAt (fun _ => True) X u1 (ofL cls1).1) (h2 : ChsAt (fun _ => True) X u2 (ofL cls2).1) => both_any (ofL cls1) (ofL cls2) (ofL_good _) (ofL_good _) X u1 u2 h1.lt h2.lt
    have NO := Lib.hid fun X u1 (h1 : ChsAt (fun _ => True) X u1 (ofL cls1).1) => not_any (ofL cls1) (ofL_good _) X u1 h1.lt
    have NN := Lib.hid fun X u1 (h1 : ChsAt (fun _ => True) X u1 (Dia.built 6 (Dia.notL (Dia.diaTab 6 (ofL cls1)))).1) => not_any _ (not_good cls1) X u1 h1.lt
    rw [ofL_both] at BO
    rw [ofL_not] at NN
    have L1 := Lib.hid one_len
    have hx4 : ∀ x : List (List Int), (ofL x).1.length ≤ 4000 := fun x => by have := (ofL_good x).few; have h64 : (2 : Nat) ^ 6 = 64 := by decide
                                                                             omega
    have SD := Lib.hid fun X (d : List Dia.Ch × Nat) (hd : d.1.length ≤ 4000) u1 u2 (h1 : ChsAt (fun _ => True) X u1 d.1) (h2 : ChsAt (fun _ => True) X u2 d.1) => sameDia_any d.1 d.2 hd X u1 u2 h1 h2
    have HX4 := Lib.hid (And.intro (hx4 cls1) (hx4 (cls1 ++ cls2)))
    generalize ofL (cls1 ++ cls2) = dc at *
    generalize ofL cls1 = da at *
    generalize ofL cls2 = db at *
    generalize ofL [[1]] = d1 at *
    generalize Dia.built 6 (Dia.notL (Dia.diaTab 6 da)) = dn at *
    obtain ⟨n3, hn3⟩ : ∃ n3, n3 = (cls1 ++ cls2).length := ⟨_, rfl⟩
    rw [← hn3] at hB3 OFC
    generalize cls1.length = n1 at *
    generalize cls2.length = n2 at *
    have hSw : Same w wc := hB3.1
    obtain ⟨x0, x1, _, _⟩ := cells2 (hB3.at (i := xb) (o := .cells #[.int .i64 6, .slice ao n1 cap1] 41) (by simp))
    have B3 := Lib.hid hB3
    clear hB3 hSW hCL hlen3 hx4 hn3 KV1 KV2 HVS1' HVS2' KS KB B2 O1 O2 HLEN HBX
    go_wp2_with fail
    refine (OFA.out _ ?_).mono ?_
    · exact Keeps.refl _ _
    rintro e w3 ⟨v3, rfl, ⟨a3, c3, rfl, hat3⟩, hS3⟩
    clear x0 x1
    have C3 := Lib.hid fun X (hX : Same w3 X) => (ChsAt.mono (T := fun _ => True) (⟨a3, c3, rfl, hat3⟩ : ChsAt _ w3 (.slice a3 da.1.length c3) da.1) (fun _ _ => trivial)).same hX
    have R3 := Lib.hid hS3
    have hB3 := B3.out.after hS3
    obtain ⟨ky0, ky1, _, _⟩ := cells2 (hB3.at (i := yb) (o := (.cells #[.int .i64 6, .slice bo n2 cap2] 41)) (by simp))
    have kyl : yb < w3.heap.size := World.block_lt_of_cell? w3 ⟨yb, 0, none⟩ ky0
    have hD3 := (hB3.alloc (.cells #[.slice a3 da.1.length c3, .int .i64 (da.2 : Int)] 45)).alloc (.cells #[.int .i64 0, .int .i64 0] 27)
    simp only [World.size_alloc] at hD3
    have D3 := Lib.hid hD3
    clear hat3 hS3 hB3 hD3
    go_wp2_with fail
    refine (OFB.out _ ?_).mono ?_
    · exact ((R3.out.alloc _).alloc _)
    rintro e w4 ⟨v4, rfl, ⟨a4, c4, rfl, hat4⟩, hS4⟩
    clear ky0 ky1 kyl
    have C4 := Lib.hid fun X (hX : Same w4 X) => (ChsAt.mono (T := fun _ => True) (⟨a4, c4, rfl, hat4⟩ : ChsAt _ w4 (.slice a4 db.1.length c4) db.1) (fun _ _ => trivial)).same hX
    have R4 := Lib.hid (((R3.out.alloc (.cells #[.slice a3 da.1.length c3, .int .i64 (da.2 : Int)] 45)).alloc (.cells #[.int .i64 0, .int .i64 0] 27)).trans hS4)
    have hB4 := D3.out.after hS4
    have T3_4 := Lib.hid (((Keeps.refl (fun _ => True) w3).alloc (.cells #[.slice a3 da.1.length c3, .int .i64 (da.2 : Int)] 45)).alloc (.cells #[.int .i64 0, .int .i64 0] 27) |>.trans hS4)
    obtain ⟨kz0, kz1, _, _⟩ := cells2 (hB4.at (i := g) (o := (.cells #[.int .i64 6, .slice zo n3 zc] 41)) (by simp))
    have kzl : g < w4.heap.size := World.block_lt_of_cell? w4 ⟨g, 0, none⟩ kz0
    have hD4 := (hB4.alloc (.cells #[.slice a4 db.1.length c4, .int .i64 (db.2 : Int)] 45)).alloc (.cells #[.int .i64 0, .int .i64 0] 27)
    simp only [World.size_alloc] at hD4
    have D4 := Lib.hid hD4
    clear hat4 hS4 hB4 hD4
    go_wp2_with fail
    refine (OFC.out _ ?_).mono ?_
    · exact ((R4.out.alloc _).alloc _)
    rintro e w5 ⟨v5, rfl, ⟨a5, c5, rfl, hat5⟩, hS5⟩
    clear kz0 kz1 kzl
    have C5 := Lib.hid fun X (hX : Same w5 X) => (ChsAt.mono (T := fun _ => True) (⟨a5, c5, rfl, hat5⟩ : ChsAt _ w5 (.slice a5 dc.1.length c5) dc.1) (fun _ _ => trivial)).same hX
    have R5 := Lib.hid (((R4.out.alloc (.cells #[.slice a4 db.1.length c4, .int .i64 (db.2 : Int)] 45)).alloc (.cells #[.int .i64 0, .int .i64 0] 27)).trans hS5)
    have hB5 := D4.out.after hS5
    have T3_5 := Lib.hid (((T3_4.out.alloc (.cells #[.slice a4 db.1.length c4, .int .i64 (db.2 : Int)] 45)).alloc (.cells #[.int .i64 0, .int .i64 0] 27)).trans hS5)
    have T4_5 := Lib.hid (((Keeps.refl (fun _ => True) w4).alloc (.cells #[.slice a4 db.1.length c4, .int .i64 (db.2 : Int)] 45)).alloc (.cells #[.int .i64 0, .int .i64 0] 27) |>.trans hS5)
    obtain ⟨k30, k31, _, _⟩ := cells2 (hB5.at (i := w3.heap.size) (o := (.cells #[.slice a3 da.1.length c3, .int .i64 (da.2 : Int)] 45)) (by simp))
    have k3l : w3.heap.size < w5.heap.size := World.block_lt_of_cell? w5 ⟨w3.heap.size, 0, none⟩ k30
    obtain ⟨k40, k41, _, _⟩ := cells2 (hB5.at (i := w4.heap.size) (o := (.cells #[.slice a4 db.1.length c4, .int .i64 (db.2 : Int)] 45)) (by simp))
    have k4l : w4.heap.size < w5.heap.size := World.block_lt_of_cell? w5 ⟨w4.heap.size, 0, none⟩ k40
    have hD5 := (hB5.alloc (.cells #[.slice a5 dc.1.length c5, .int .i64 (dc.2 : Int)] 45)).alloc (.cells #[.int .i64 0, .int .i64 0] 27)
    simp only [World.size_alloc] at hD5
    have D5 := Lib.hid hD5
    clear hat5 hS5 hB5 hD5
    go_wp2_with fail
    refine (BO.out _ _ _ ?_ ?_).mono ?_
    · exact C3.out _ (((T3_5.out).alloc _).alloc _)
    · exact C4.out _ (((T4_5.out).alloc _).alloc _)
    rintro e w6 ⟨v6, rfl, ⟨a6, c6, rfl, hat6⟩, hS6⟩
    clear k30 k31 k3l k40 k41 k4l
    have C6 := Lib.hid fun X (hX : Same w6 X) => (ChsAt.mono (T := fun _ => True) (⟨a6, c6, rfl, hat6⟩ : ChsAt _ w6 (.slice a6 dc.1.length c6) dc.1) (fun _ _ => trivial)).same hX
    have R6 := Lib.hid (((R5.out.alloc (.cells #[.slice a5 dc.1.length c5, .int .i64 (dc.2 : Int)] 45)).alloc (.cells #[.int .i64 0, .int .i64 0] 27)).trans hS6)
    have hB6 := D5.out.after hS6
    have T3_6 := Lib.hid (((T3_5.out.alloc (.cells #[.slice a5 dc.1.length c5, .int .i64 (dc.2 : Int)] 45)).alloc (.cells #[.int .i64 0, .int .i64 0] 27)).trans hS6)
    have T4_6 := Lib.hid (((T4_5.out.alloc (.cells #[.slice a5 dc.1.length c5, .int .i64 (dc.2 : Int)] 45)).alloc (.cells #[.int .i64 0, .int .i64 0] 27)).trans hS6)
    have T5_6 := Lib.hid (((Keeps.refl (fun _ => True) w5).alloc (.cells #[.slice a5 dc.1.length c5, .int .i64 (dc.2 : Int)] 45)).alloc (.cells #[.int .i64 0, .int .i64 0] 27) |>.trans hS6)
    obtain ⟨k30, k31, _, _⟩ := cells2 (hB6.at (i := w3.heap.size) (o := (.cells #[.slice a3 da.1.length c3, .int .i64 (da.2 : Int)] 45)) (by simp))
    have k3l : w3.heap.size < w6.heap.size := World.block_lt_of_cell? w6 ⟨w3.heap.size, 0, none⟩ k30
    have hD6 := (hB6.alloc (.cells #[.slice a6 dc.1.length c6, .int .i64 (dc.2 : Int)] 45)).alloc (.cells #[.int .i64 0, .int .i64 0] 27)
    simp only [World.size_alloc] at hD6
    have D6 := Lib.hid hD6
    clear hat6 hS6 hB6 hD6
    go_wp2_with fail
    refine (NO.out _ _ ?_).mono ?_
    · exact C3.out _ (((T3_6.out).alloc _).alloc _)
    rintro e w7 ⟨v7, rfl, ⟨a7, c7, rfl, hat7⟩, hS7⟩
    clear k30 k31 k3l
    have C7 := Lib.hid fun X (hX : Same w7 X) => (ChsAt.mono (T := fun _ => True) (⟨a7, c7, rfl, hat7⟩ : ChsAt _ w7 (.slice a7 dn.1.length c7) dn.1) (fun _ _ => trivial)).same hX
    have R7 := Lib.hid (((R6.out.alloc (.cells #[.slice a6 dc.1.length c6, .int .i64 (dc.2 : Int)] 45)).alloc (.cells #[.int .i64 0, .int .i64 0] 27)).trans hS7)
    have hB7 := D6.out.after hS7
    have T3_7 := Lib.hid (((T3_6.out.alloc (.cells #[.slice a6 dc.1.length c6, .int .i64 (dc.2 : Int)] 45)).alloc (.cells #[.int .i64 0, .int .i64 0] 27)).trans hS7)
    have T4_7 := Lib.hid (((T4_6.out.alloc (.cells #[.slice a6 dc.1.length c6, .int .i64 (dc.2 : Int)] 45)).alloc (.cells #[.int .i64 0, .int .i64 0] 27)).trans hS7)
    have T5_7 := Lib.hid (((T5_6.out.alloc (.cells #[.slice a6 dc.1.length c6, .int .i64 (dc.2 : Int)] 45)).alloc (.cells #[.int .i64 0, .int .i64 0] 27)).trans hS7)
    have T6_7 := Lib.hid (((Keeps.refl (fun _ => True) w6).alloc (.cells #[.slice a6 dc.1.length c6, .int .i64 (dc.2 : Int)] 45)).alloc (.cells #[.int .i64 0, .int .i64 0] 27) |>.trans hS7)
    have hD7 := (hB7.alloc (.cells #[.slice a7 dn.1.length c7, .int .i64 (dn.2 : Int)] 45)).alloc (.cells #[.int .i64 0, .int .i64 0] 27)
    simp only [World.size_alloc] at hD7
    have D7 := Lib.hid hD7
    clear hat7 hS7 hB7 hD7
    go_wp2_with fail
    refine (NN.out _ _ ?_).mono ?_
    · exact C7.out _ (((Keeps.refl _ _).alloc _).alloc _)
    rintro e w8 ⟨v8, rfl, ⟨a8, c8, rfl, hat8⟩, hS8⟩
    have C8 := Lib.hid fun X (hX : Same w8 X) => (ChsAt.mono (T := fun _ => True) (⟨a8, c8, rfl, hat8⟩ : ChsAt _ w8 (.slice a8 da.1.length c8) da.1) (fun _ _ => trivial)).same hX
    have R8 := Lib.hid (((R7.out.alloc (.cells #[.slice a7 dn.1.length c7, .int .i64 (dn.2 : Int)] 45)).alloc (.cells #[.int .i64 0, .int .i64 0] 27)).trans hS8)
    have hB8 := D7.out.after hS8
    have T3_8 := Lib.hid (((T3_7.out.alloc (.cells #[.slice a7 dn.1.length c7, .int .i64 (dn.2 : Int)] 45)).alloc (.cells #[.int .i64 0, .int .i64 0] 27)).trans hS8)
    have T4_8 := Lib.hid (((T4_7.out.alloc (.cells #[.slice a7 dn.1.length c7, .int .i64 (dn.2 : Int)] 45)).alloc (.cells #[.int .i64 0, .int .i64 0] 27)).trans hS8)
    have T5_8 := Lib.hid (((T5_7.out.alloc (.cells #[.slice a7 dn.1.length c7, .int .i64 (dn.2 : Int)] 45)).alloc (.cells #[.int .i64 0, .int .i64 0] 27)).trans hS8)
    have T6_8 := Lib.hid (((T6_7.out.alloc (.cells #[.slice a7 dn.1.length c7, .int .i64 (dn.2 : Int)] 45)).alloc (.cells #[.int .i64 0, .int .i64 0] 27)).trans hS8)
    have T7_8 := Lib.hid (((Keeps.refl (fun _ => True) w7).alloc (.cells #[.slice a7 dn.1.length c7, .int .i64 (dn.2 : Int)] 45)).alloc (.cells #[.int .i64 0, .int .i64 0] 27) |>.trans hS8)
    have hD8 := (hB8.alloc (.cells #[.slice a8 da.1.length c8, .int .i64 (da.2 : Int)] 45)).alloc (.cells #[.int .i64 0, .int .i64 0] 27)
    simp only [World.size_alloc] at hD8
    have D8 := Lib.hid hD8
    clear hat8 hS8 hB8 hD8
    go_wp2_with fail
    refine (OF1.out _ _ ?_).mono ?_
    · have h := cls_one ((w8.alloc (.cells #[.slice a8 da.1.length c8, .int .i64 (da.2 : Int)] 45)).alloc (.cells #[.int .i64 0, .int .i64 0] 27)) 3 33
      simp only [World.size_alloc] at h
      exact h
    rintro e w9 ⟨v9, rfl, ⟨a9, c9, hv9, hat9⟩, hS9'⟩
    rw [L1.out] at hv9
    subst hv9
    have hS9 : Same ((w8.alloc (.cells #[.slice a8 da.1.length c8, .int .i64 (da.2 : Int)] 45)).alloc (.cells #[.int .i64 0, .int .i64 0] 27)) w9 := (((Keeps.refl _ _).alloc _).alloc _).trans hS9'
    have R9 := Lib.hid (((R8.out.alloc (.cells #[.slice a8 da.1.length c8, .int .i64 (da.2 : Int)] 45)).alloc (.cells #[.int .i64 0, .int .i64 0] 27)).trans hS9)
    have hB9 := D8.out.after hS9
    have T3_9 := Lib.hid (((T3_8.out.alloc (.cells #[.slice a8 da.1.length c8, .int .i64 (da.2 : Int)] 45)).alloc (.cells #[.int .i64 0, .int .i64 0] 27)).trans hS9)
    have T4_9 := Lib.hid (((T4_8.out.alloc (.cells #[.slice a8 da.1.length c8, .int .i64 (da.2 : Int)] 45)).alloc (.cells #[.int .i64 0, .int .i64 0] 27)).trans hS9)
    have T5_9 := Lib.hid (((T5_8.out.alloc (.cells #[.slice a8 da.1.length c8, .int .i64 (da.2 : Int)] 45)).alloc (.cells #[.int .i64 0, .int .i64 0] 27)).trans hS9)
    have T6_9 := Lib.hid (((T6_8.out.alloc (.cells #[.slice a8 da.1.length c8, .int .i64 (da.2 : Int)] 45)).alloc (.cells #[.int .i64 0, .int .i64 0] 27)).trans hS9)
    have T7_9 := Lib.hid (((T7_8.out.alloc (.cells #[.slice a8 da.1.length c8, .int .i64 (da.2 : Int)] 45)).alloc (.cells #[.int .i64 0, .int .i64 0] 27)).trans hS9)
    have T8_9 := Lib.hid (((Keeps.refl (fun _ => True) w8).alloc (.cells #[.slice a8 da.1.length c8, .int .i64 (da.2 : Int)] 45)).alloc (.cells #[.int .i64 0, .int .i64 0] 27) |>.trans hS9)
    have HB9 := Lib.hid hB9
    clear hat9 hS9 hS9' hB9
    go_upto_region 11 with fail
    have hV9 := (HB9.out.alloc (.cells #[.slice a9 1 c9, .int .i64 (d1.2 : Int)] 45)).alloc (.cells #[.int .i64 0, .int .i64 0] 27)
    simp only [World.size_alloc] at hV9
    have hk9 : Same w9 ((w9.alloc (.cells #[.slice a9 1 c9, .int .i64 (d1.2 : Int)] 45)).alloc (.cells #[.int .i64 0, .int .i64 0] 27)) := ((Keeps.refl _ _).alloc _).alloc _
    generalize ((w9.alloc (.cells #[.slice a9 1 c9, .int .i64 (d1.2 : Int)] 45)).alloc (.cells #[.int .i64 0, .int .i64 0] 27)) = V9 at *
    obtain ⟨k30, k31, _, _⟩ := cells2 (hV9.at (i := w3.heap.size) (o := (.cells #[.slice a3 da.1.length c3, .int .i64 (da.2 : Int)] 45)) (by simp))
    obtain ⟨k50, k51, _, _⟩ := cells2 (hV9.at (i := w5.heap.size) (o := (.cells #[.slice a5 dc.1.length c5, .int .i64 (dc.2 : Int)] 45)) (by simp))
    obtain ⟨k60, k61, _, _⟩ := cells2 (hV9.at (i := w6.heap.size) (o := (.cells #[.slice a6 dc.1.length c6, .int .i64 (dc.2 : Int)] 45)) (by simp))
    obtain ⟨k80, k81, _, _⟩ := cells2 (hV9.at (i := w8.heap.size) (o := (.cells #[.slice a8 da.1.length c8, .int .i64 (da.2 : Int)] 45)) (by simp))
    obtain ⟨kf30, _, _, _⟩ := cells2 (hV9.at (i := w3.heap.size + 1) (o := (.cells #[.int .i64 0, .int .i64 0] 27)) (by simp))
    obtain ⟨kf40, _, _, _⟩ := cells2 (hV9.at (i := w4.heap.size + 1) (o := (.cells #[.int .i64 0, .int .i64 0] 27)) (by simp))
    obtain ⟨kf50, _, _, _⟩ := cells2 (hV9.at (i := w5.heap.size + 1) (o := (.cells #[.int .i64 0, .int .i64 0] 27)) (by simp))
    obtain ⟨kf60, _, _, _⟩ := cells2 (hV9.at (i := w6.heap.size + 1) (o := (.cells #[.int .i64 0, .int .i64 0] 27)) (by simp))
    obtain ⟨kf70, _, _, _⟩ := cells2 (hV9.at (i := w7.heap.size + 1) (o := (.cells #[.int .i64 0, .int .i64 0] 27)) (by simp))
    obtain ⟨kf80, _, _, _⟩ := cells2 (hV9.at (i := w8.heap.size + 1) (o := (.cells #[.int .i64 0, .int .i64 0] 27)) (by simp))
    obtain ⟨k90, _, _, _⟩ := cells2 (hV9.at (i := w9.heap.size) (o := .cells #[.slice a9 1 c9, .int .i64 (d1.2 : Int)] 45) (by simp))
    obtain ⟨kf90, _, _, _⟩ := cells2 (hV9.at (i := w9.heap.size + 1) (o := (.cells #[.int .i64 0, .int .i64 0] 27)) (by simp))
    have HV9 := Lib.hid hV9
    have HK9 := Lib.hid hk9
    clear hV9 hk9
    go_wp2_with fail
    refine (SD.out _ dc HX4.out.2 _ _ ?_ ?_).mono ?_
    · exact C5.out _ (T5_9.out.trans HK9.out)
    · exact C6.out _ (T6_9.out.trans HK9.out)
    rintro e wA ⟨rfl, hSA⟩
    have HSA := Lib.hid hSA
    have hBA := HV9.out.after hSA
    clear k30 k31 k50 k51 k60 k61 k80 k81 kf30 kf40 kf50 kf60 kf70 kf80 k90 kf90
    obtain ⟨k30, k31, _, _⟩ := cells2 (hBA.at (i := w3.heap.size) (o := (.cells #[.slice a3 da.1.length c3, .int .i64 (da.2 : Int)] 45)) (by simp))
    obtain ⟨k80, k81, _, _⟩ := cells2 (hBA.at (i := w8.heap.size) (o := (.cells #[.slice a8 da.1.length c8, .int .i64 (da.2 : Int)] 45)) (by simp))
    have HBA := Lib.hid hBA
    clear hBA hSA
    go_wp2_with fail
    refine (SD.out _ da HX4.out.1 _ _ ?_ ?_).mono ?_
    · exact C8.out _ ((T8_9.out.trans HK9.out).trans HSA.out)
    · exact C3.out _ ((T3_9.out.trans HK9.out).trans HSA.out)
    rintro e wE ⟨rfl, hSE⟩
    have HE := Lib.hid (HBA.out.1.trans hSE)
    clear hSE k30 k31 k80 k81
    go_wp2
    go_ret
    exact ⟨rfl, HE.out⟩
end Go.Proofs.Ytpokiglgjmcdoaa
