/-
  K.CnfOf: clauses out of raw numbers.
-/
import Derived.Test.YtpokiglgjmcdoaaCl
import Derived.Test.YtpokiglgjmcdoaaRange
import Derived.Shelf.RegionOpen
import Derived.Deep.RegionLawGrows
set_option linter.unusedVariables false
set_option linter.unusedSimpArgs false
namespace Go.Proofs.Ytpokiglgjmcdoaa
open Go.ChangeShapes Go.WideShapes Go.ChangeAt Go.RowKit Go.BigFrame Go.Shelf
open Um

/-- the call owns the clauses: the outer slice and each clause -/
def ClsOwn (w : World) (base : Nat) (v : Value) (cls : List (List Int)) : Prop :=
  ∃ vals : List Value, w.ownsRow base 33 1 v cls.length vals ∧ ∀ (j : Nat) (u : Value) (p : List Int), vals[j]? = some u → cls[j]? = some p → w.ownsRow base 3 1 u p.length (p.map (Value.int .i64))
theorem ClsOwn.same {w w' : World} {base : Nat} {v : Value} {cls : List (List Int)} (h : ClsOwn w base v cls) (hS : Same w w') : ClsOwn w' base v cls := by
  obtain ⟨vals, h1, h2⟩ := h
  have hk : ∀ {e : TypeId} {size : Nat} {v : Value} {n : Nat} {xs : List Value}, w.ownsRow base e size v n xs → w'.ownsRow base e size v n xs := by
    intro e size v n xs h
    refine h.kept (same_grown hS) ?_
    cases hv : v.ownBlock with
    | none => exact .inl rfl
    | some k => exact .inr (by simp)
  exact ⟨vals, hk h1, fun j u p hj hp => hk (h2 j u p hj hp)⟩
theorem own_ne {k : Option Nat} (x : Unit := ()) : k = none ∨ k ≠ none := by cases k <;> simp
theorem own_elem {w : World} {base : Nat} {e : TypeId} {size : Nat} {v : Value} {n : Nat} {xs : List Value} (h : w.ownsRow base e size v n xs) {g : Nat} (hg : v.ownBlock = some g) : ∃ cur, w.heap[g]? = some (.cells cur e (0, 0)) := by
  rcases h.2 with ⟨h1, _⟩ | ⟨g', cap, cur, h1, _, h3, _⟩
  · rw [h1] at hg; cases hg
  · rw [h1] at hg; cases hg; exact ⟨cur, h3⟩
theorem own_base {w : World} {base base' : Nat} {e : TypeId} {size : Nat} {v : Value} {n : Nat} {xs : List Value} (h : w.ownsRow base e size v n xs) (hb : base' ≤ base) : w.ownsRow base' e size v n xs := by
  refine ⟨h.1, h.2.imp id ?_⟩
  rintro ⟨g, cap, cur, h1, h2, h3⟩
  exact ⟨g, cap, cur, h1, Nat.le_trans hb h2, h3⟩
theorem own_low {w w' : World} {base : Nat} {e : TypeId} {size : Nat} {v : Value} {n : Nat} {xs : List Value} (h : w.ownsRow base e size v n xs) {row : Option Nat} (hg : w.grownBy w' row) (hr : ∀ k, row = some k → k < base) : w'.ownsRow base e size v n xs := by
  refine h.kept hg ?_
  cases hv : v.ownBlock with
  | none => exact .inl rfl
  | some k =>
    refine .inr ?_
    intro he
    have h1 := (h.lt k hv).1
    have h2 := hr k he.symm
    omega
theorem ClsOwn.low {w w' : World} {base : Nat} {v : Value} {cls : List (List Int)} (h : ClsOwn w base v cls) {row : Option Nat} (hg : w.grownBy w' row) (hr : ∀ k, row = some k → k < base) : ClsOwn w' base v cls := by
  obtain ⟨vals, h1, h2⟩ := h
  exact ⟨vals, own_low h1 hg hr, fun j u p hj hp => own_low (h2 j u p hj hp) hg hr⟩
theorem ClsOwn.base {w : World} {base base' : Nat} {v : Value} {cls : List (List Int)} (h : ClsOwn w base v cls) (hb : base' ≤ base) : ClsOwn w base' v cls := by
  obtain ⟨vals, h1, h2⟩ := h
  exact ⟨vals, own_base h1 hb, fun j u p hj hp => own_base (h2 j u p hj hp) hb⟩
theorem set_grown (w : World) (p : Addr) (u : Value) : w.grownBy (w.setCell p u) (some p.block) :=
  ⟨rfl, rfl, rfl, by simp, fun k _ hk => Below.heap_setCell _ _ _ _ (fun e => hk (by rw [e]))⟩
/-- one clause more -/
theorem ClsOwn.push {w w' : World} {base : Nat} {v v' : Value} {cls : List (List Int)} {vals : List Value} (h1 : w.ownsRow base 33 1 v cls.length vals)
    (h2 : ∀ (j : Nat) (u : Value) (p : List Int), vals[j]? = some u → cls[j]? = some p → w.ownsRow base 3 1 u p.length (p.map (Value.int .i64))) {u : Value} {p : List Int}
    (hu : w.ownsRow base 3 1 u p.length (p.map (Value.int .i64))) (hown : w'.ownsRow base 33 1 v' (cls.length + 1) (vals ++ [u])) (hg : w.grownBy w' v.ownBlock) : ClsOwn w' base v' (cls ++ [p]) := by
  have hk : ∀ {u : Value} {n : Nat} {xs : List Value}, w.ownsRow base 3 1 u n xs → w'.ownsRow base 3 1 u n xs := by
    intro u n xs h
    refine h.kept hg ?_
    cases hv : u.ownBlock with
    | none => exact .inl rfl
    | some k =>
      refine .inr ?_
      intro he
      obtain ⟨c1, e1⟩ := own_elem h hv
      obtain ⟨c2, e2⟩ := own_elem h1 he.symm
      rw [e1] at e2
      simp at e2
  have hl : vals.length = cls.length := by have := h1.1; simpa using this
  refine ⟨vals ++ [u], by rw [List.length_append]; exact hown, fun j x q hj hq => ?_⟩
  rcases Nat.lt_or_ge j cls.length with h | h
  · rw [List.getElem?_append_left (by omega)] at hj hq
    exact hk (h2 j x q hj hq)
  · have hje : j = cls.length := by
      have := (List.getElem?_eq_some_iff.1 hq).1; simp at this; omega
    subst hje
    rw [List.getElem?_append_right (Nat.le_refl _)] at hq
    rw [← hl, List.getElem?_append_right (Nat.le_refl _)] at hj
    simp at hj hq
    subst hj hq
    exact hk hu
/-- 'append' to an owned slice, as one step of a region that draws -/
theorem step_append_own {P : Program} {ops : Array Oper} {o : Oper} {a : Act} {w : World} {K : Act → World → Prop} {Q : Exit → Act → World → Prop} {E : Prop}
    (hg : o.guard = none) (s x : Operand) (t : TypeId) (hop : o.op = Op.call { callee := Callee.builtin Builtin.append, args := #[s, x], argTypes := #[t, t] })
    (base : Nat) (e : TypeId) (i : TypeInfo) (z : Value) (size bytes : Nat) (h1 : P.underlying t = some (.slice e)) (h2 : P.info? e = some i) (h3 : i.zero = some z) (h4 : i.size = size) (h5 : i.bytes = bytes) (h6 : z.cells.size = size) (h7 : 0 < size)
    (v : Value) (n : Nat) (xs : List Value) (hs : a.eval s = v) (hown : w.ownsRow base e size v n xs)
    (ad : Addr) (m c : Nat) (news : List Value) (hx : a.eval x = .slice (some ad) m c) (hn : news.length = m * size) (hc : ∀ j u, news[j]? = some u → w.cell? (ad.add j) = some u) (h1c : ∀ u ∈ news, u.oneCell' = true)
    (b1 : n + m ≤ maxLen) (b2 : (n + m) * bytes ≤ 140737488355328) (hb : base ≤ w.heap.size)
    (hK : ∀ v' w', w'.ownsRow base e size v' (n + m) (xs ++ news) → w.grownBy w' v.ownBlock → K (a.put o.dst v') w') :
    if Region.wanted o (yielded ops a.tmps) = true then Oper.wp P o a w K Q else E := by
  rw [if_pos (by simp [Region.wanted, hg])]
  obtain ⟨v', w', hrun, r1, r2, _⟩ := run_append_own (P := P) w base t o.type e i z size bytes h1 h2 h3 h4 h5 h6 h7 v n xs hown ad m c news hn hc h1c b1 b2 hb
  unfold Oper.wp
  simp [execOp, hop, resolve, invoke, builtin, hs, hx, hrun, Result.andThen]
  exact hK v' w' r1 r2
theorem one_new (W : World) (u : Value) (e : TypeId) : ∀ j x', [u][j]? = some x' → (W.alloc (.cells #[u] e)).cell? ((⟨W.heap.size, 0, none⟩ : Addr).add j) = some x' := by
  intro j x' h
  cases j with
  | zero => simp at h; subst h; simp [Addr.add]
  | succ j => simp at h
theorem info_ints : (Try.prog.info? 33).map (fun i => (i.zero, i.size, i.bytes)) = some (some (.slice none 0 0), 1, 24) := by kernel_rfl

set_option maxHeartbeats 2000000 in
set_option maxRecDepth 100000 in
theorem cnfOf_any (v : Value) (l : List Int) (vars : Int) (n : Nat) (S : Nat → Prop) (w : World) (hl : RowAt S w v (l.map (Value.int .i64))) (hi : ∀ x ∈ l, I64 x) (hv : 1 ≤ vars ∧ vars ≤ 120) (hn : n ≤ 100) :
    Calls Try.prog 23 #[v, .int .i64 vars, .int .i64 n] w fun e w' => ∃ r cls, e = .returned (.agg #[.int .i64 vars, r]) ∧ ClsOwn w' w.heap.size r cls ∧ cls.length ≤ n ∧ (∀ p ∈ cls, ClOk vars 3 p) ∧ Same w w' := by
  obtain ⟨i0, hi0, hz0, hz1, hz2⟩ := info_parts info_ints
  have hcl := fun x (hx : I64 x) (W : World) => clauseOf_any x vars hx hv W
  obtain ⟨ao, m, cap, rfl, hm⟩ : ∃ (ao : Option Addr) (m cap : Nat), v = .slice ao m cap ∧ m = l.length := by
    rcases hl with ⟨⟨a, cap, h, _⟩, h2⟩ | ⟨b, o, cap, h, _⟩
    · exact ⟨a, 0, cap, h, by simpa using (congrArg List.length h2).symm⟩
    · exact ⟨_, _, cap, h, by simp⟩
  have HL : Hid (∀ k, k < m → ∃ b o x, ao = some ⟨b, o, none⟩ ∧ w.cell? ⟨b, o + k, none⟩ = some (.int .i64 x) ∧ I64 x) := by
    intro k hk
    rcases hl with ⟨⟨a, cap, h, _⟩, h2⟩ | ⟨b, o, cap, h, _, _, _, _, hc⟩
    · simp at h2; subst h2; simp at hm; omega
    · simp only [Value.slice.injEq] at h
      obtain ⟨x, hx⟩ : ∃ x, l[k]? = some x := ⟨_, List.getElem?_eq_getElem (by omega)⟩
      exact ⟨b, o, x, h.1, hc k _ (by simp [hx]), hi x (List.mem_of_getElem? hx)⟩
  have HM := Lib.hid hm
  clear hl hi hm
  go_enter Try.func23, Try.ntmps23
  go_wp2
  go_loopw [8] (fun i wr => ∃ (k : Nat) (cls : List (List Int)) (r : Value), i = .int .i64 k ∧ k ≤ m ∧ k ≤ n ∧ cls.length = k ∧ Hid (∀ p ∈ cls, ClOk vars 3 p) ∧ ClsOwn wr (w.heap.size + 2) r cls ∧ Same w wr ∧ w.heap.size + 2 ≤ wr.heap.size ∧
      wr.cell? ⟨w.heap.size + 1, 0, none⟩ = some (.int .i64 vars) ∧ wr.cell? ⟨w.heap.size + 1, 1, none⟩ = some r ∧ (∀ o, wr.frozen? ⟨w.heap.size + 1, o, none⟩ = false) ∧
      (∃ x, wr.cell? ⟨w.heap.size, 0, none⟩ = some x) ∧ (∃ x, wr.cell? ⟨w.heap.size, 1, none⟩ = some x) ∧ (∀ o, wr.frozen? ⟨w.heap.size, o, none⟩ = false)) (fun i _ => n - (intOf i).toNat)
  case atStart =>
    refine ⟨0, [], .slice none 0 0, rfl, Nat.zero_le _, Nat.zero_le _, rfl, Lib.hid (by simp), ⟨[], World.ownsRow_nil _ _ _ _, by simp⟩, ((Keeps.refl _ w).alloc _).alloc _, by simp, by simp [go_sem], by simp [go_sem], by simp [go_sem], by simp [go_sem], by simp [go_sem], by simp [go_sem]⟩
  case round =>
    obtain ⟨k, cls, r, rfl, hkm, hkn, hlen, hok, ⟨vals, hown, hvals⟩, hS, hsz, hc0, hc1, hcf, ⟨x0, hr0⟩, ⟨x1, hr1⟩, hrf⟩ := hrel
    rw [hlen] at hown
    obtain ⟨ao', cap', rfl, hcap', hcm', _⟩ := own_slice hown
    have HLEN := Lib.hid hlen
    clear hlen
    by_cases h1 : k < m
    · by_cases h2 : k < n
      · obtain ⟨b, o, x, rfl, hx, hxi⟩ := HL.out k h1
        have hx' := hS.cell_of trivial hx
        clear hx
        go_wp2
        have hcl2 : Calls Try.prog 28 #[.int .i64 x, .int .i64 vars] wr.drew fun e B => ∃ v, e = .returned v ∧ ∃ p : List Int, B.ownsRow wr.heap.size 3 1 v p.length (p.map (Value.int .i64)) ∧ ClOk vars 3 p ∧ Same wr B :=
          (hcl x hxi _).mono (by rintro e B ⟨v, p, h1, h2, h3, h4⟩; exact ⟨v, h1, p, h2, h3, ((Keeps.refl _ wr).drew).trans h4⟩)
        have HVALS := Lib.hid hvals
        clear hcl hvals
        go_region_law (first
          | (refine step_call rfl 28 _ _ rfl (enters_of Try.func28 (by kernel_rfl) rfl) #[.int .i64 x, .int .i64 vars] (by simp [Act.eval, Act.put]) hcl2 ?_
             rintro u W1 ⟨p, hu, hpok, hS1⟩
             obtain ⟨ua, ucap, rfl, _, _, _⟩ := own_slice hu
             obtain ⟨pn, hpn⟩ : ∃ pn, pn = p.length := ⟨_, rfl⟩
             rw [← hpn] at hu
             rw [← hpn]
             have c1 := hS1.cell_of trivial hc1
             have l1 : w.heap.size + 1 < W1.heap.size := by have := hS1.size; omega
             have HPN := Lib.hid hpn
             have HPOK := Lib.hid hpok
             clear hpn hpok)
          | (refine step_append_own rfl _ _ 39 rfl (w.heap.size + 2) 33 i0 (.slice none 0 0) 1 24 Try.underlying39 hi0 hz0 hz1 hz2 rfl (by decide) (.slice ao' k cap') k vals (by simp [Act.eval, Act.put]) ((hown.kept (same_grown hS1) own_ne).alloc _) ⟨W1.heap.size, 0, none⟩ 1 1 [.slice ua pn ucap] (by simp [Act.eval, Act.put]) rfl (one_new W1 _ _) (by simp [Value.oneCell']) (by unfold maxLen; omega) (by omega) (by have := hS1.size; simp; omega) ?_
             intro v' W2 hown' hgrow
             obtain ⟨va, vcap, rfl, _, _, _⟩ := own_slice hown'
             have hK2 : Keeps (fun b => b < w.heap.size + 2) wr W2 := (hS1.keeps.alloc _).grown hgrow (fun k hk hb _ => by have := (hown.lt k hk).1; omega)
             have d0 := hK2.cellB hc0 (by show w.heap.size + 1 < _; omega)
             have d1 := hK2.cellB hc1 (by show w.heap.size + 1 < _; omega)
             have d2 : ∀ o, W2.frozen? ⟨w.heap.size + 1, o, none⟩ = false := fun o => hK2.frozenB (hcf o) (by show w.heap.size + 1 < _; omega) (by show w.heap.size + 1 < _; omega)))
        all_goals
          have hu2 : W1.ownsRow (w.heap.size + 2) 3 1 (.slice ua pn ucap) p.length (p.map (Value.int .i64)) := own_base (by rw [← HPN.out]; exact hu) hsz
          have hpush : ClsOwn W2 (w.heap.size + 2) (.slice va (k + 1) vcap) (cls ++ [p]) :=
            ClsOwn.push (w := W1.alloc (.cells #[.slice ua pn ucap] 33)) (by rw [HLEN.out]; exact (hown.kept (same_grown hS1) own_ne).alloc _)
              (fun j u q hj hq => ((HVALS.out j u q hj hq).kept (same_grown hS1) own_ne).alloc _) (hu2.alloc _) (by rw [HLEN.out]; exact hown') hgrow
          have hend := hpush.low (set_grown W2 ⟨w.heap.size + 1, 1, none⟩ (.slice va (k + 1) vcap)) (fun j hj => by cases hj; show w.heap.size + 1 < _; omega)
          have hsz2 := hK2.size
          have hSe : Same w (W2.setCell ⟨w.heap.size + 1, 1, none⟩ (.slice va (k + 1) vcap)) := (Same.through hS hK2 (fun b hb => by omega)).setCell (fun j _ hj => by show j ≠ w.heap.size + 1; omega) _
          have hok2 : ∀ q ∈ cls ++ [p], ClOk vars 3 q := by
            intro q hq
            rcases List.mem_append.1 hq with h | h
            · exact hok.out q h
            · simp at h; subst h; exact HPOK.out
          have hlen2 : (cls ++ [p]).length = k + 1 := by rw [List.length_append, HLEN.out]; rfl
          have e0 := hK2.cellB hr0 (by show w.heap.size < _; omega)
          have e1 := hK2.cellB hr1 (by show w.heap.size < _; omega)
          have e2 : ∀ o, W2.frozen? ⟨w.heap.size, o, none⟩ = false := fun o => hK2.frozenB (hrf o) (by show w.heap.size < _; omega) (by show w.heap.size < _; omega)
          have HE1 := Lib.hid hend
          have HE2 := Lib.hid hSe
          have HE3 := Lib.hid hok2
          have HE4 := Lib.hid hlen2
          clear hend hSe hok2 hlen2 hpush hu2
          go_wp2
          go_roundw
          case rel =>
            exact ⟨k + 1, cls ++ [p], _, by go_num, by omega, by omega, HE4.out, HE3, HE1.out, HE2.out, by simp; omega, by simp [go_sem, d0], by simp [go_sem, d1], fun o => by simp [go_sem, d2], ⟨x0, by simp [go_sem, e0]⟩, ⟨x1, by simp [go_sem, e1]⟩, fun o => by simp [go_sem, e2]⟩
          case measure => simp [intOf]; omega
      · have hcls : ClsOwn ((wr.setCell ⟨w.heap.size, 0, none⟩ (.int .i64 vars)).setCell ⟨w.heap.size, 1, none⟩ (.slice ao' k cap')) w.heap.size (.slice ao' k cap') cls :=
          ((ClsOwn.low ⟨vals, by rw [HLEN.out]; exact hown, hvals⟩ (set_grown wr ⟨w.heap.size, 0, none⟩ _) (fun j hj => by cases hj; show w.heap.size < _; omega)).low (set_grown _ ⟨w.heap.size, 1, none⟩ _) (fun j hj => by cases hj; show w.heap.size < _; omega)).base (by omega)
        have HCL := Lib.hid hcls
        clear hcls hvals
        go_wp2
        exact bodyPost_ret (v := .agg #[.int .i64 vars, .slice ao' k cap']) (by simp [results, Try.results23, go_sem, hr0, hr1]) rfl ⟨_, cls, rfl, HCL.out, by rw [HLEN.out]; exact hkn, hok.out, (hS.setCell (fun j _ hj => by show j ≠ w.heap.size; omega) _).setCell (fun j _ hj => by show j ≠ w.heap.size; omega) _⟩
    · have hcls : ClsOwn ((wr.setCell ⟨w.heap.size, 0, none⟩ (.int .i64 vars)).setCell ⟨w.heap.size, 1, none⟩ (.slice ao' k cap')) w.heap.size (.slice ao' k cap') cls :=
        ((ClsOwn.low ⟨vals, by rw [HLEN.out]; exact hown, hvals⟩ (set_grown wr ⟨w.heap.size, 0, none⟩ _) (fun j hj => by cases hj; show w.heap.size < _; omega)).low (set_grown _ ⟨w.heap.size, 1, none⟩ _) (fun j hj => by cases hj; show w.heap.size < _; omega)).base (by omega)
      have HCL := Lib.hid hcls
      clear hcls hvals
      go_wp2
      exact bodyPost_ret (v := .agg #[.int .i64 vars, .slice ao' k cap']) (by simp [results, Try.results23, go_sem, hr0, hr1]) rfl ⟨_, cls, rfl, HCL.out, by rw [HLEN.out]; exact hkn, hok.out, (hS.setCell (fun j _ hj => by show j ≠ w.heap.size; omega) _).setCell (fun j _ hj => by show j ≠ w.heap.size; omega) _⟩
end Go.Proofs.Ytpokiglgjmcdoaa
