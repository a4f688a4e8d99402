/-
  K.ClauseOf: some literals over so many variables, each variable once.
-/
import Derived.Test.YtpokiglgjmcdoaaSl
set_option linter.unusedVariables false
set_option linter.unusedSimpArgs false
namespace Um
open Go Go.RowKit
/-- literals over the variables 1 .. vars, each variable once, at most n -/
def ClOk (vars : Int) (n : Nat) (p : List Int) : Prop := p.length ≤ n ∧ (∀ l ∈ p, 1 ≤ l.natAbs ∧ (l.natAbs : Int) ≤ vars) ∧ (p.map Int.natAbs).Nodup
theorem ClOk.push {vars : Int} {n : Nat} {p : List Int} (h : ClOk vars n p) {l : Int} (h1 : 1 ≤ l.natAbs ∧ (l.natAbs : Int) ≤ vars) (hn : ∀ y ∈ p, y.natAbs ≠ l.natAbs) : ClOk vars (n + 1) (p ++ [l]) := by
  refine ⟨by have := h.1; simp; omega, ?_, ?_⟩
  · intro x hx
    rcases List.mem_append.1 hx with h' | h'
    · exact h.2.1 x h'
    · simp at h'; subst h'; exact h1
  · rw [List.map_append, List.nodup_append]
    refine ⟨h.2.2, by simp, ?_⟩
    intro a ha b hb
    simp at hb
    subst hb
    obtain ⟨y, hy, rfl⟩ := List.mem_map.1 ha
    exact hn y hy
theorem ClOk.more {vars : Int} {n m : Nat} {p : List Int} (h : ClOk vars n p) (hm : n ≤ m) : ClOk vars m p := ⟨Nat.le_trans h.1 hm, h.2⟩
theorem ClOk.perm {vars : Int} {n : Nat} {p q : List Int} (h : ClOk vars n p) (hp : p.Perm q) : ClOk vars n q :=
  ⟨by rw [← hp.length_eq]; exact h.1, fun l hl => h.2.1 l (hp.mem_iff.2 hl), ((hp.map _).nodup_iff).1 h.2.2⟩
theorem tdiv_i64 {a b : Int} (ha : I64 a) (hb : 0 < b) : I64 (a.tdiv b) := by
  unfold I64 at *
  have h := Int.natAbs_tdiv a b
  have h2 : a.natAbs / b.natAbs ≤ a.natAbs := Nat.div_le_self _ _
  have h3 : 0 ≤ a → 0 ≤ a.tdiv b := fun h => Int.tdiv_nonneg h (by omega)
  have h5 : a ≤ 0 → a.tdiv b ≤ 0 := fun h => by have := Int.tdiv_nonneg (show 0 ≤ -a by omega) (show 0 ≤ b by omega); rw [Int.neg_tdiv] at this; omega
  have h4 : (a.tdiv b).natAbs ≤ a.natAbs := by rw [h]; exact h2
  omega
theorem own_slice {w : World} {base : Nat} {e : TypeId} {size : Nat} {v : Value} {n : Nat} {xs : List Value} (h : w.ownsRow base e size v n xs) :
    ∃ (ao : Option Addr) (cap : Nat), v = .slice ao n cap ∧ n ≤ cap ∧ cap ≤ maxLen ∧ (0 < n → ∃ g, ao = some ⟨g, 0, none⟩ ∧ base ≤ g ∧ g < w.heap.size) := by
  rcases h.2 with ⟨h1, h2⟩ | ⟨g, cap, cur, h1, h2, h3, h4, h5, _⟩
  · exact ⟨none, 0, by rw [h1, h2], by omega, by decide, by omega⟩
  · exact ⟨_, cap, h1, h4, h5, fun _ => ⟨g, rfl, h2, (Array.getElem?_eq_some_iff.1 h3).1⟩⟩
theorem same_grown {w w' : World} (h : Same w w') : w.grownBy w' none := ⟨h.os, h.tape, h.output, h.size, fun k hk _ => h.block k trivial hk⟩
theorem swap_perm {α : Type} {a b : α} : ∀ {l : List α} {r : Nat}, l[r]? = some a → l[r + 1]? = some b → l.Perm ((l.set (r + 1) a).set r b)
  | x :: y :: l, 0, h1, h2 => by
    simp at h1 h2
    subst h1 h2
    exact List.Perm.swap _ _ _
  | [x], 0, h1, h2 => by simp at h2
  | x :: l, r + 1, h1, h2 => by
    simp only [List.getElem?_cons_succ] at h1 h2
    simp only [List.set_cons_succ]
    exact (swap_perm h1 h2).cons x
  | [], r, h1, h2 => by simp at h1
end Um
namespace Go.Proofs.Ytpokiglgjmcdoaa
open Go.ChangeShapes Go.WideShapes Go.ChangeAt Go.RowKit Go.BigFrame
open Um

set_option maxHeartbeats 2000000 in
set_option maxRecDepth 100000 in
theorem clauseOf_any (x vars : Int) (hx : I64 x) (hv : 1 ≤ vars ∧ vars ≤ 120) (w : World) :
    Calls Try.prog 28 #[.int .i64 x, .int .i64 vars] w fun e w' => ∃ v p, e = .returned v ∧ w'.ownsRow w.heap.size 3 1 v p.length (p.map (Value.int .i64)) ∧ ClOk vars 3 p ∧ Same w w' := by
  obtain ⟨i0, hi0, hz0, hz1, hz2⟩ := info_parts info_int
  have hpk := fun a (ha : I64 a) (W : World) => picked_any a 3 ha (by omega) W
  have hpv := fun a (ha : I64 a) (W : World) => picked_any a vars ha (by omega) W
  have hvb : (vars == 0) = false := by simp; omega
  go_enter Try.func28, Try.ntmps28
  go_wp2
  go_loopw [0, 5, 6] (fun x c k wr => ∃ (a : Int) (p : List Int) (n : Nat), x = .int .i64 a ∧ I64 a ∧ k = .int .i64 n ∧ n ≤ 3 ∧ wr.ownsRow w.heap.size 3 1 c p.length (p.map (Value.int .i64)) ∧ ClOk vars n p ∧ Same w wr) (fun _ _ k _ => 3 - (intOf k).toNat)
  case atStart => exact ⟨x, [], 0, rfl, hx, rfl, by omega, World.ownsRow_nil _ _ _ _, ⟨by simp, by simp, by simp⟩, Keeps.refl _ w⟩
  case round =>
    obtain ⟨a, p, n, rfl, ha, rfl, hn, hown, hok, hS⟩ := hrel
    go_wp2_with fail
    refine (hpk a ha _).mono ?_
    rintro e w1 ⟨rfl, rfl⟩
    have hm3 : 0 ≤ a % 3 ∧ a % 3 < 3 := ⟨Int.emod_nonneg _ (by omega), Int.emod_lt_of_pos _ (by omega)⟩
    by_cases hle : (n : Int) ≤ a % 3
    · have hd1 : I64 (a.tdiv 3) := tdiv_i64 ha (by omega)
      obtain ⟨q, hq⟩ : ∃ q, q = a.tdiv 3 := ⟨_, rfl⟩
      have hqw : IntKind.i64.wrap (a.tdiv 3) = a.tdiv 3 := IntWalk.i64_in _ hd1
      go_wp2_with fail
      refine (hpv _ hd1 _).mono ?_
      rintro e w1 ⟨rfl, rfl⟩
      have hmv : 0 ≤ (a.tdiv 3) % vars ∧ (a.tdiv 3) % vars < vars := ⟨Int.emod_nonneg _ (by omega), Int.emod_lt_of_pos _ (by omega)⟩
      have hd2 : I64 ((a.tdiv 3).tdiv vars) := tdiv_i64 hd1 (by omega)
      have hqw2 : IntKind.i64.wrap ((a.tdiv 3).tdiv vars) = (a.tdiv 3).tdiv vars := IntWalk.i64_in _ hd2
      obtain ⟨z, hz⟩ : ∃ z, z = 1 + a.tdiv 3 % vars := ⟨_, rfl⟩
      have hzb : 1 ≤ z ∧ z ≤ vars := by omega
      obtain ⟨a2, ha2⟩ : ∃ a2, a2 = (a.tdiv 3).tdiv vars := ⟨_, rfl⟩
      rw [← ha2] at hd2
      obtain ⟨ao, cap, rfl, hcap, hcm, hgg⟩ := own_slice hown
      go_wp2
      rw [← hz, ← ha2]
      obtain ⟨np, hnp⟩ : ∃ np, np = p.length := ⟨_, rfl⟩
      rw [← hnp]
      rw [← hnp] at hown hgg hcap
      have hnp3 : np ≤ 3 := by have := hok.1; omega
      have HNP := Lib.hid hnp
      clear hq hqw hqw2 hz ha2 hmv hd1 hnp
      go_loopw [8, 9] (fun had i wr => ∃ j : Nat, j ≤ np ∧ i = .int .i64 j ∧ had = .bool ((p.take j).any (fun y => y == z || y == -z)) ∧ wr = w1) (fun _ i _ => np - (intOf i).toNat)
      case atStart => exact ⟨0, Nat.zero_le _, rfl, rfl, rfl⟩
      case round =>
        obtain ⟨j, hj, rfl, rfl, rfl⟩ := hrel
        by_cases hjn : j < np
        · obtain ⟨g, rfl, hgb, hgl⟩ := hgg (by omega)
          obtain ⟨y, hy⟩ : ∃ y, p[j]? = some y := ⟨_, List.getElem?_eq_getElem (by rw [← HNP.out]; exact hjn)⟩
          have hcy : wr.cell? ⟨g, j, none⟩ = some (.int .i64 y) := by
            rw [hown.cellAt j (by omega)]; simp [hy]
          have hyb := hok.2.1 y (List.mem_of_getElem? hy)
          have htk : (p.take (j + 1)).any (fun y => y == z || y == -z) = ((p.take j).any (fun y => y == z || y == -z) || (y == z || y == -z)) := by
            rw [List.take_add_one, hy, List.any_append]; simp
          have HTK := Lib.hid htk
          clear htk
          cases hb : (p.take j).any (fun y => y == z || y == -z)
          · cases hb1 : (y == z)
            · cases hb2 : (y == -z)
              all_goals
                have HB := Lib.hid hb; have HB1 := Lib.hid hb1; have HB2 := Lib.hid hb2
                have hb1' : decide (y = z) = _ := hb1
                have hb2' : decide (y = -z) = _ := hb2
                clear hb
                go_wp2
                go_roundw
                case rel => exact ⟨j + 1, by omega, by go_num, by rw [HTK.out, HB.out, HB1.out, HB2.out]; simp, trivial⟩
                case measure => simp [intOf]; omega
            · have HB := Lib.hid hb; have HB1 := Lib.hid hb1
              have hb1' : decide (y = z) = _ := hb1
              clear hb
              go_wp2
              go_roundw
              case rel => exact ⟨j + 1, by omega, by go_num, by rw [HTK.out, HB.out, HB1.out]; simp, trivial⟩
              case measure => simp [intOf]; omega
          · have HB := Lib.hid hb
            clear hb
            go_wp2
            go_roundw
            case rel => exact ⟨j + 1, by omega, by go_num, by rw [HTK.out, HB.out]; simp, trivial⟩
            case measure => simp [intOf]; omega
        · have hjq : j = np := by omega
          subst hjq
          have htk : p.take j = p := List.take_of_length_le (by rw [← HNP.out]; exact Nat.le_refl _)
          rw [htk]
          cases hany : p.any (fun y => y == z || y == -z)
          · have hnew : ∀ y ∈ p, y.natAbs ≠ z.natAbs := by
              intro y hy
              have := List.any_eq_false.1 hany y hy
              simp at this
              omega
            have HNEW := Lib.hid hnew
            clear hnew hany htk
            have hown2 := fun (o : Obj) => hown.alloc o
            have hcc : ∀ (u : Int) j' x', [Value.int .i64 u][j']? = some x' → (wr.alloc (.cells #[.int .i64 u] 3)).cell? ((⟨wr.heap.size, 0, none⟩ : Addr).add j') = some x' := by
              intro u j' x' h
              cases j' with
              | zero => simp at h; subst h; simp [Addr.add]
              | succ j' => simp at h
            have HCC := Lib.hid hcc
            clear hcc
            by_cases hm : a2.tmod 2 = 0
            · have hm1 : (a2.tmod 2 != 0) = false := by simp [hm]
              clear hm
              go_wp2_with (at_builtin; go_must (refine wpList_append_own _ rfl _ _ 33 rfl w.heap.size 3 i0 (.int .i64 0) 1 8 Try.underlying33 hi0 hz0 hz1 hz2 rfl (by decide) _ _ _ rfl (hown2 _) ⟨wr.heap.size, 0, none⟩ 1 1 [.int .i64 z] rfl rfl (HCC.out _) (by simp [Value.oneCell']) (by unfold maxLen; omega) (by omega) (Nat.le_trans hS.size (by simp)) ?_); intro v' w2 hown' hgrow _)
              have HOB : Hid (∀ k, (Value.slice ao j cap).ownBlock = some k → w.heap.size ≤ k) := Lib.hid (fun k hk => (hown.lt k hk).1)
              go_wp2
              go_roundw
              case rel => exact ⟨a2, p ++ [z], n + 1, rfl, hd2, by go_num, by omega, by rw [List.length_append, ← HNP.out, List.map_append]; exact hown', (hok.push (by omega) (fun y hy => by have := HNEW.out y hy; omega)), (hS.alloc _).grown hgrow (fun k hk _ hl => by have := HOB.out k hk; omega)⟩
              case measure => simp [intOf]; omega
            · have hm1 : (a2.tmod 2 != 0) = true := by simp [hm]
              clear hm
              go_wp2_with (at_builtin; go_must (refine wpList_append_own _ rfl _ _ 33 rfl w.heap.size 3 i0 (.int .i64 0) 1 8 Try.underlying33 hi0 hz0 hz1 hz2 rfl (by decide) _ _ _ rfl (hown2 _) ⟨wr.heap.size, 0, none⟩ 1 1 [.int .i64 (-z)] rfl rfl (HCC.out _) (by simp [Value.oneCell']) (by unfold maxLen; omega) (by omega) (Nat.le_trans hS.size (by simp)) ?_); intro v' w2 hown' hgrow _)
              have HOB : Hid (∀ k, (Value.slice ao j cap).ownBlock = some k → w.heap.size ≤ k) := Lib.hid (fun k hk => (hown.lt k hk).1)
              go_wp2
              go_roundw
              case rel => exact ⟨a2, p ++ [-z], n + 1, rfl, hd2, by go_num, by omega, by rw [List.length_append, ← HNP.out, List.map_append]; exact hown', (hok.push (by omega) (fun y hy => by have := HNEW.out y hy; omega)), (hS.alloc _).grown hgrow (fun k hk _ hl => by have := HOB.out k hk; omega)⟩
              case measure => simp [intOf]; omega
          · clear hany htk
            go_wp2
            go_roundw
            case rel => exact ⟨a2, p, n + 1, rfl, hd2, by go_num, by omega, by rw [← HNP.out]; exact hown, hok.more (by omega), hS⟩
            case measure => simp [intOf]; omega
    · obtain ⟨ao, cap, rfl, hcap, hcm, hgg⟩ := own_slice hown
      obtain ⟨np, hnp⟩ : ∃ np, np = p.length := ⟨_, rfl⟩
      rw [← hnp] at hown hgg hcap
      rw [← hnp]
      have hnp3 : np ≤ 3 := by have := hok.1; omega
      have HNP := Lib.hid hnp
      have HOK := Lib.hid hok
      clear hnp hok hm3 hpk hpv hvb
      go_wp2
      go_loopw [10] (fun i wr => ∃ m : Nat, i = .int .i64 m ∧ 1 ≤ m ∧ m ≤ 4 ∧ ∃ p' : List Int, p.Perm p' ∧ wr.ownsRow w.heap.size 3 1 (.slice ao np cap) np (p'.map (Value.int .i64)) ∧ Same w wr) (fun i _ => 4 - (intOf i).toNat)
      case atStart => exact ⟨1, rfl, by omega, by omega, p, List.Perm.refl _, hown, hS⟩
      case round =>
        clear hown hS
        obtain ⟨m, rfl, hm1, hm4, p1, hperm1, hown1, hS1⟩ := hrel
        by_cases hmn : m < np
        · go_wp2
          obtain ⟨g, rfl, hgb, hgl⟩ := hgg (by omega)
          go_loopw [11] (fun j wr => ∃ q : Nat, j = .int .i64 q ∧ q < np ∧ ∃ p' : List Int, p.Perm p' ∧ wr.ownsRow w.heap.size 3 1 (.slice (some ⟨g, 0, none⟩) np cap) np (p'.map (Value.int .i64)) ∧ Same w wr) (fun j _ => (intOf j).toNat)
          case atStart => exact ⟨m, rfl, hmn, p1, hperm1, hown1, hS1⟩
          case round =>
            clear hown1 hS1 hperm1
            obtain ⟨q, rfl, hqn, p2, hperm, hown, hS⟩ := hrel
            have hlen : np = p2.length := by rw [HNP.out]; exact hperm.length_eq
            have HOK2 := Lib.hid (HOK.out.perm hperm)
            have HLEN := Lib.hid hlen
            have HPERM := Lib.hid hperm
            clear hlen hperm
            cases q with
            | zero =>
              go_wp2
              (refine wp_region_ext (by kernel_rfl) (by kernel_rfl) ?_; (repeat (go_big_quiet_step ((fail)))); refine wpQuiet_nil ?_; rintro _ ⟨pq, rfl⟩)
              have hS2 := hS.trans (same_ext wr pq)
              have hown2 := hown.kept (same_grown (same_ext wr pq)) (.inr (by simp [Value.ownBlock]))
              generalize ext wr pq = wq at *
              go_wp2
              go_roundw
              case rel => exact ⟨m + 1, by go_num, by omega, by omega, p2, HPERM.out, hown2, hS2⟩
              case measure => simp [intOf]; omega
            | succ r =>
              obtain ⟨y1, hy1⟩ : ∃ y, p2[r + 1]? = some y := ⟨_, List.getElem?_eq_getElem (by rw [← HLEN.out]; exact hqn)⟩
              obtain ⟨y0, hy0⟩ : ∃ y, p2[r]? = some y := ⟨_, List.getElem?_eq_getElem (by rw [← HLEN.out]; omega)⟩
              have hb1 := HOK2.out.2.1 y1 (List.mem_of_getElem? hy1)
              have hb0 := HOK2.out.2.1 y0 (List.mem_of_getElem? hy0)
              have hc1 : wr.cell? ⟨g, r + 1, none⟩ = some (.int .i64 y1) := by rw [hown.cellAt (r + 1) (by omega)]; simp [hy1]
              have hc0 : wr.cell? ⟨g, r, none⟩ = some (.int .i64 y0) := by rw [hown.cellAt r (by omega)]; simp [hy0]
              have hc1' := cell_ext hc1
              have hc0' := cell_ext hc0
              have hk1 := fun p => ext_calls ((kvar_any y1 (by omega) (ext wr p)).mono fun e w' h => ⟨h.1, by rw [h.2]; exact Keeps.refl _ _⟩)
              have hk0 := fun p => ext_calls ((kvar_any y0 (by omega) (ext wr p)).mono fun e w' h => ⟨h.1, by rw [h.2]; exact Keeps.refl _ _⟩)
              have HY1 := Lib.hid hy1
              have HY0 := Lib.hid hy0
              obtain ⟨z1, hz1⟩ : ∃ z1, z1 = y1.natAbs := ⟨_, rfl⟩
              obtain ⟨z0, hz0⟩ : ∃ z0, z0 = y0.natAbs := ⟨_, rfl⟩
              rw [← hz1] at hk1
              rw [← hz0] at hk0
              clear hy1 hy0 hb1 hb0 hc1 hc0 hz1 hz0
              by_cases hlt : (z1 : Int) < z0
              · go_wp2
                (refine wp_region_ext (by kernel_rfl) (by kernel_rfl) ?_; (repeat (go_big_quiet_step ((first | exact hk1 _ | exact hk0 _)))); refine wpQuiet_nil ?_; rintro _ ⟨pq, rfl⟩)
                have hS2 := hS.trans (same_ext wr pq)
                have hown2 := hown.kept (same_grown (same_ext wr pq)) (.inr (by simp [Value.ownBlock]))
                have hd1 := hc1' pq
                have hd0 := hc0' pq
                have hf1 := hown2.frozenAt (r + 1)
                have hf0 := hown2.frozenAt r
                clear hc1' hc0' hk1 hk0
                generalize ext wr pq = wq at *
                go_wp2
                have hst := (hown2.stored (r + 1) (.int .i64 y0))
                have hst2 := hst.1.stored r (.int .i64 y1)
                have hS3 : Same w ((wq.setCell ⟨g, r + 1, none⟩ (.int .i64 y0)).setCell ⟨g, r, none⟩ (.int .i64 y1)) := (hS2.setCell (fun k _ hk => by show k ≠ g; omega) _).setCell (fun k _ hk => by show k ≠ g; omega) _
                have hp3 : p.Perm ((p2.set (r + 1) y0).set r y1) := HPERM.out.trans (swap_perm HY0.out HY1.out)
                have hl3 : (p2.map (Value.int .i64)).set (r + 1) (.int .i64 y0) = (p2.set (r + 1) y0).map (Value.int .i64) := by rw [List.map_set]
                have hl4 : ((p2.map (Value.int .i64)).set (r + 1) (.int .i64 y0)).set r (.int .i64 y1) = ((p2.set (r + 1) y0).set r y1).map (Value.int .i64) := by simp only [List.map_set]
                have hst3 := hst2.1
                rw [hl4] at hst3
                have HST := Lib.hid hst3
                have HS3 := Lib.hid hS3
                have HP3 := Lib.hid hp3
                clear hst hst2 hst3 hl3 hl4 hS3 hp3
                go_region
                all_goals
                  go_wp2
                  go_roundw
                  case rel => exact ⟨r, by go_num, by omega, _, HP3.out, by first | exact HST.out | exact HST.out.drew, by first | exact HS3.out | exact HS3.out.drew⟩
                  case measure => simp [intOf]
              · go_wp2
                (refine wp_region_ext (by kernel_rfl) (by kernel_rfl) ?_; (repeat (go_big_quiet_step ((first | exact hk1 _ | exact hk0 _)))); refine wpQuiet_nil ?_; rintro _ ⟨pq, rfl⟩)
                have hS2 := hS.trans (same_ext wr pq)
                have hown2 := hown.kept (same_grown (same_ext wr pq)) (.inr (by simp [Value.ownBlock]))
                generalize ext wr pq = wq at *
                go_wp2
                go_roundw
                case rel => exact ⟨m + 1, by go_num, by omega, by omega, p2, HPERM.out, hown2, hS2⟩
                case measure => simp [intOf]; omega
        · go_wp2
          go_ret
          refine ⟨_, p1, rfl, by rw [← hperm1.length_eq, ← HNP.out]; exact hown1, (HOK.out.perm hperm1).more hn, hS1⟩
end Go.Proofs.Ytpokiglgjmcdoaa
