/-
  (*dia.builder).node.
-/
import Derived.Test.YtpokiglgjmcdoaaBld
import Derived.Deep.RegionHeld3
import Derived.Deep.DrawnRows
import Derived.Deep.DeepCutAuto
import Derived.Deep.AppendLies
import Derived.Deep.RegionLaw
import Derived.IntWalk
set_option linter.unusedVariables false
set_option linter.unusedSimpArgs false
namespace Go.Proofs.Ytpokiglgjmcdoaa
open Go.ChangeShapes Go.WideShapes Go.ChangeAt Go.RowKit Go.BigFrame Go.Shelf Go.Maps
open Um
attribute [local go_sem ↓] Go.wp_at_zero Go.wp_at_succ

theorem info_ch : (Try.prog.info? 136).map (fun i => (i.zero, i.size, i.bytes)) = some (some (.agg #[.int .i64 0, .int .i64 0, .int .i64 0]), 3, 24) := by kernel_rfl
theorem zero_int (u : World) : (zeroValue 3).run Try.prog u = .ok (.int .i64 0) u := by simp [go_sem, Try.underlying3]
def NodePost (w0 w : World) (ob kb sb B : Nat) (r : Nat × Dia.St) (e : Ending) (w' : World) : Prop := e = .returned (.int .i64 (r.1 : Int)) ∧ Bld w0 ob kb sb B r.2 w' ∧ Spares ob kb sb w w'

set_option maxRecDepth 100000 in
theorem node_zero (w0 w : World) (ob kb sb B : Nat) (s : Dia.St) (hB : Bld w0 ob kb sb B s w) (t : List Nat) (ht : t.length = 1) (tx : ∀ x ∈ t, x < 2) (v : Nat) (hv : v ≤ 100) (tv : Value) (htv : RowAt (fun _ => True) w0 tv (u8s t)) :
    Calls Try.prog 118 #[.pointer (some ⟨ob, 0, none⟩), tv, .int .i64 v] w (NodePost w0 w ob kb sb B (Dia.node 0 t v s)) := by
  obtain ⟨x, rfl⟩ : ∃ x, t = [x] := by
    match t, ht with
    | [x], _ => exact ⟨x, rfl⟩
  have hx2 : x < 2 := tx x (by simp)
  obtain ⟨ao, cap, rfl, _, hc⟩ := row_cases htv
  obtain ⟨b, o, x', rfl, hx', e0, _⟩ := hc 0 (by simp [u8s])
  simp [u8s] at hx'
  subst hx'
  rw [Nat.add_zero] at e0
  have e0' := hB.same.cell_of trivial e0
  have hl : (u8s [x]).length = 1 := rfl
  rw [hl]
  clear hc htv hl ht tx e0
  go_enter Try.func118, Try.ntmps118
  go_wp2
  go_ret
  exact ⟨rfl, hB, Spares.refl _ _ _ _⟩

set_option maxRecDepth 100000 in
theorem node_seen (w0 w : World) (ob kb sb B : Nat) (s : Dia.St) (hB : Bld w0 ob kb sb B s w) (m : Nat) (t : List Nat) (ht : t.length = 2 ^ (m + 1)) (hm : m ≤ 16) (tx : ∀ x ∈ t, x < 2) (v : Nat) (hv : v ≤ 100) (tv : Value) (htv : RowAt (fun _ => True) w0 tv (u8s t))
    (i : Nat) (hs : s.2 t = some i) :
    Calls Try.prog 118 #[.pointer (some ⟨ob, 0, none⟩), tv, .int .i64 v] w (NodePost w0 w ob kb sb B (Dia.node (m + 1) t v s)) := by
  have hr : Dia.node (m + 1) t v s = (i, s) := by rw [Dia.node, hs]
  rw [hr]
  have hp1 : 2 ^ (m + 1) ≤ 2 ^ 17 := Nat.pow_le_pow_right (by omega) (by omega)
  have hp2 : 2 ≤ 2 ^ (m + 1) := by rw [Nat.pow_succ]; have := Nat.two_pow_pos m; omega
  have htl : t.length ≤ 131072 := by rw [ht]; exact hp1
  have htl2 : 2 ≤ t.length := by rw [ht]; exact hp2
  have htok : tabOk t := ⟨by omega, tx⟩
  obtain ⟨ao, cap, rfl, _, hc⟩ := row_cases htv
  obtain ⟨b, o, x', rfl, hx', e0, _⟩ := hc 0 (by simp [u8s]; omega)
  have hl : (u8s t).length = t.length := by simp [u8s]
  rw [hl] at htv ⊢
  have hconv : ∀ p, (convert 129 9 (.slice (some ⟨b, o, none⟩) t.length cap)).run Try.prog (ext w p) = .ok (.string (tabStr t)) (ext w p) := fun p => conv_tab htv (hB.same.trans (same_ext w p))
  have hlook : ∀ p, (Instr.lookup 191 (.map (some sb)) (.string (tabStr t)) true).run Try.prog (ext w p) = .ok (.tuple #[.int .i64 i, .bool true]) (ext w p) := fun p => by
    have := (hB.seen.same (same_ext w p)).look tab_keyv htok Try.underlying191 zero_int
    rw [hs] at this
    exact this
  have hc2 := cell_ext hB.c2
  have hlen : ((t.length : Int) == 1) = false := by simp; omega
  clear hc htv hl hx' e0 htok hp1 hp2
  obtain ⟨n, hn⟩ : ∃ n, n = t.length := ⟨_, rfl⟩
  rw [← hn] at hconv hlen htl htl2
  rw [← hn]
  have HB := Lib.hid hB
  clear hn ht hr hs hB
  go_enter Try.func118, Try.ntmps118
  go_wp2
  (refine wp_region_ext (by kernel_rfl) (by kernel_rfl) ?_; (repeat (go_big_quiet_step ((fail)))); refine wpQuiet_nil ?_; rintro _ ⟨pq, rfl⟩)
  go_wp2
  go_ret
  exact ⟨rfl, HB.out.after (same_ext w pq), Spares.of_same HB.out.ob_lt (same_ext w pq)⟩


def pcs (c : Dia.Ch) : Array Value := #[.int .i64 (c.v : Int), .int .i64 (c.lo : Int), .int .i64 (c.hi : Int)]
set_option maxHeartbeats 1600000 in
set_option maxRecDepth 100000 in
theorem node_new (w0 w : World) (ob kb sb B : Nat) (s : Dia.St) (hB : Bld w0 ob kb sb B s w) (hf : Nat) (t : List Nat) (ht : t.length = hf + hf) (hh : 1 ≤ hf ∧ hf ≤ 65536) (tx : ∀ x ∈ t, x < 2) (v : Nat) (hv : v ≤ 100)
    (b o cap : Nat) (htv : RowAt (fun _ => True) w0 (.slice (some ⟨b, o, none⟩) t.length cap) (u8s t)) (hcap : t.length ≤ cap ∧ cap ≤ 9223372036854775807) (hs : s.2 t = none) (lo hi : Nat) (s1 s2 : Dia.St) (hr : lo ≤ 200000 ∧ hi ≤ 200000 ∧ s2.1.length ≤ 200000) (r : Nat × Dia.St)
    (hrr : r = if lo = hi then (lo, (s2.1, Dia.put s2.2 t lo)) else match Dia.known s2.1 ⟨v, lo, hi⟩ with
        | some j => (j, (s2.1, Dia.put s2.2 t j))
        | none => (s2.1.length + 2, (s2.1 ++ [⟨v, lo, hi⟩], Dia.put s2.2 t (s2.1.length + 2))))
    (hc1 : ∀ A, Bld w0 ob kb sb B s A → Calls Try.prog 118 #[.pointer (some ⟨ob, 0, none⟩), .slice (some ⟨b, o, none⟩) hf cap, .int .i64 (v + 1)] A fun e A' => e = .returned (.int .i64 (lo : Int)) ∧ Bld w0 ob kb sb B s1 A' ∧ Spares ob kb sb A A')
    (hc2 : ∀ A, Bld w0 ob kb sb B s1 A → Calls Try.prog 118 #[.pointer (some ⟨ob, 0, none⟩), .slice (some ⟨b, o + hf, none⟩) (t.length - hf) (cap - hf), .int .i64 (v + 1)] A fun e A' => e = .returned (.int .i64 (hi : Int)) ∧ Bld w0 ob kb sb B s2 A' ∧ Spares ob kb sb A A') :
    Calls Try.prog 118 #[.pointer (some ⟨ob, 0, none⟩), .slice (some ⟨b, o, none⟩) t.length cap, .int .i64 v] w
      (NodePost w0 w ob kb sb B r) := by
  have HR := Lib.hid hrr
  clear hrr
  have htok : tabOk t := ⟨by omega, tx⟩
  have hconv : ∀ u, Same w0 u → (convert 129 9 (.slice (some ⟨b, o, none⟩) t.length cap)).run Try.prog u = .ok (.string (tabStr t)) u := fun u hu => conv_tab htv hu
  have hconv1 : ∀ p, (convert 129 9 (.slice (some ⟨b, o, none⟩) t.length cap)).run Try.prog (ext w p) = .ok (.string (tabStr t)) (ext w p) := fun p => hconv _ (hB.same.trans (same_ext w p))
  have hlook : ∀ p, (Instr.lookup 191 (.map (some sb)) (.string (tabStr t)) true).run Try.prog (ext w p) = .ok (.tuple #[.int .i64 0, .bool false]) (ext w p) := fun p => by
    have := (hB.seen.same (same_ext w p)).look tab_keyv htok Try.underlying191 zero_int
    rw [hs] at this
    exact this
  have hcm2 := cell_ext hB.c2
  have hlen : ((t.length : Int) == 1) = false := by simp; omega
  obtain ⟨n, hn⟩ : ∃ n, n = t.length := ⟨_, rfl⟩
  rw [← hn] at hconv hconv1 hlen hcap ht hc2
  rw [← hn]
  have hq : (n : Int) / 2 = (hf : Int) := by omega
  have hi1 : (0 : Int) ≤ (hf : Int) := by omega
  have hi2 : (hf : Int) ≤ (cap : Int) := by omega
  have hi3 : (hf : Int) ≤ (n : Int) := by omega
  have HB := Lib.hid hB
  have HC1 := Lib.hid hc1
  have HC2 := Lib.hid hc2
  have HCONV := Lib.hid hconv
  have HTOK := Lib.hid htok
  have hv0 : (0 : Int) ≤ (v : Int) := by omega
  have hv1 : (v : Int) ≤ 100 := by omega
  clear hn ht htv hs hB hc1 hc2 hconv htok tx
  go_enter Try.func118, Try.ntmps118
  go_wp2
  (refine wp_region_ext (by kernel_rfl) (by kernel_rfl) ?_; (repeat (go_big_quiet_step ((fail)))); refine wpQuiet_nil ?_; rintro _ ⟨pq, rfl⟩)
  go_upto_region 7 with fail
  go_cut [10] (fun s10 wx => ∃ g : Nat, s10 = .pointer (some ⟨g, 0, none⟩) ∧ wx.heap[g]? = some (.cells (pcs ⟨v, lo, hi⟩) 136) ∧ Bld w0 ob kb sb B s2 wx ∧ Spares ob kb sb w wx ∧ Off wx ob kb sb g)
  case first =>
    have hwr : IntKind.i64.wrap ((v : Int) + 1) = (v : Int) + 1 := IntWalk.i64_in _ (by omega)
    go_region_held3 (fun _ => True) (trivial)
      (first
        | (go_at_call_of 118 (Value.slice (some ⟨b, o, none⟩) hf cap); refine (HC1.out _ ?_).mono ?_; (exact HB.out.after (by repeat (first | exact same_ext w pq | refine Keeps.drew ?_ | refine Keeps.alloc ?_ _))); rintro e w1 ⟨rfl, hB1, hS1⟩; (first | ((with_reducible have y1 : w1.heap[(ext w pq).heap.size]? = _ ∧ _ := Spares.freshD (A := ext w pq) (HB.out.after (same_ext w pq)) hS1); obtain ⟨u1, u2, u3, u4, u5, u6⟩ := cells3 y1.1) | skip))
        | (go_at_call_of 118 (Value.slice (some ⟨b, o + hf, none⟩) (n - hf) (cap - hf)); refine (HC2.out _ ?_).mono ?_; (exact hB1.after (by repeat (first | exact Keeps.refl _ _ | refine Keeps.alloc ?_ _))); rintro e w2 ⟨rfl, hB2, hS2⟩; (first | (have y2 := hS2.carry y1; clear u1 u2 u3 u4 u5 u6; obtain ⟨u1, u2, u3, u4, u5, u6⟩ := cells3 y2.1) | ((with_reducible have y2 : w2.heap[w1.heap.size]? = _ ∧ _ := Spares.fresh (A := w1) hB1 hS2); obtain ⟨u1, u2, u3, u4, u5, u6⟩ := cells3 y2.1) | skip)))
    · go_wp2_with fail
      go_meet
      have hl := HB.out.ob_lt
      have hS : Spares ob kb sb w w2 := ((Spares.of_same hl ((same_ext w pq).drew)).trans hS1).trans hS2
      exact ⟨w2.heap.size, rfl, heap_alloc_new w2 _, hB2.after ((Keeps.refl _ _).alloc _), hS.trans (Spares.of_same hB2.ob_lt ((Keeps.refl _ _).alloc _)), hB2.off_new ((Keeps.refl _ _).alloc _) (Nat.le_refl _)⟩
    · go_wp2_with fail
      go_meet
      have hl := HB.out.ob_lt
      have h0 := HB.out.same.size
      have hS : Spares ob kb sb w w1 := (Spares.of_same hl ((same_ext w pq).drew)).trans hS1
      have hN := hS.1.size
      have hS' : Spares ob kb sb w w2 := (hS.trans (Spares.of_same hB1.ob_lt ((Keeps.refl _ _).alloc _))).trans hS2
      exact ⟨w1.heap.size, rfl, node_over hB2 hS' h0 hN y2 _ _ _⟩
    · go_wp2_with fail
      go_meet
      have hl := HB.out.ob_lt
      have h0 := HB.out.same.size
      have hN := (same_ext w pq).size
      have hS' : Spares ob kb sb w w2 := ((Spares.of_same hl (((same_ext w pq).alloc _).drew)).trans hS1).trans hS2
      exact ⟨(ext w pq).heap.size, rfl, node_over hB2 hS' h0 hN y2 _ _ _⟩
  case rest =>
    clear hcm2 hlook hconv1
    obtain ⟨g, rfl, hg, hB3, hS3, hO⟩ := hcut
    have hg' : wc.heap[g]? = some (.cells #[.int .i64 (v : Int), .int .i64 (lo : Int), .int .i64 (hi : Int)] 136) := hg
    obtain ⟨x0, x1, x2, z0, z1, z2⟩ := cells3 hg'
    have X0 := cell_ext x0
    have X1 := cell_ext x1
    have X2 := cell_ext x2
    have hcm1 := cell_ext hB3.c1
    have hlk : ∀ p, (Instr.lookup 190 (.map (some kb)) (.agg #[.int .i64 (v : Int), .int .i64 (lo : Int), .int .i64 (hi : Int)]) true).run Try.prog (ext wc p) = _ := fun p => (hB3.known.same (same_ext wc p)).look ch_keyv (x := ⟨v, lo, hi⟩) (show v ≤ 4294967296 ∧ lo ≤ 4294967296 ∧ hi ≤ 4294967296 by omega) Try.underlying190 zero_int
    have HB3 := Lib.hid hB3
    have HO := Lib.hid hO
    have HS3 := Lib.hid hS3
    have HG := Lib.hid hg'
    clear hB3 hO hS3 hg hg' x0 x1 x2 z0 z1 z2 HC1 HC2 HB
    by_cases hlh : lo = hi
    · subst hlh
      obtain ⟨j, ok, hlk2⟩ : ∃ (j : Nat) (ok : Bool), ∀ p, (Instr.lookup 190 (.map (some kb)) (.agg #[.int .i64 (v : Int), .int .i64 (lo : Int), .int .i64 (lo : Int)]) true).run Try.prog (ext wc p) = .ok (.tuple #[.int .i64 j, .bool ok]) (ext wc p) := by
        cases hk : Dia.known s2.1 ⟨v, lo, lo⟩ with
        | none => rw [hk] at hlk; exact ⟨0, _, hlk⟩
        | some j => rw [hk] at hlk; exact ⟨j, _, hlk⟩
      have HR2 := Lib.hid (HR.out.trans (if_pos rfl))
      clear hlk HR
      go_wp2
      (refine wp_region_ext (by kernel_rfl) (by kernel_rfl) ?_; (repeat (go_big_quiet_step ((fail)))); refine wpQuiet_nil ?_; rintro _ ⟨pq, rfl⟩)
      have HBx := HB3.out.after (same_ext wc pq)
      have hSx := HS3.out.trans (Spares.of_same HB3.out.ob_lt (same_ext wc pq))
      have hst : ∃ w', (Instr.mapUpdate 191 (.map (some sb)) (.string (tabStr t)) (.int .i64 (lo : Int))).run Try.prog (ext wc pq).drew = .ok () w' ∧ _ := ((HBx).seen.same ((Keeps.refl _ _).drew)).store tab_keyv HTOK.out lo Try.underlying191
      have hcv1 := HCONV.out (ext wc pq) (HBx).same
      have hcv2 := HCONV.out (ext wc pq).drew (HBx).same.drew
      have hcm3 := (HBx).c2
      go_wp2
      go_still_tail 7, (by kernel_rfl)
      change wpList _ _ _ _ _ (ext wc pq).drew
      go_wp2_with (at_mapUpdate; refine wpList_mapUpdate_is _ rfl _ _ _ 191 rfl _ _ _ rfl rfl rfl _ hst ?_; rintro w5 ⟨hM, hK⟩)
      go_ret
      obtain ⟨hB5, hS5⟩ := ((HBx).after ((Keeps.refl _ _).drew)).seenStore hM hK
      rw [HR2.out]
      exact ⟨rfl, hB5, ((hSx).trans (Spares.of_same (HBx).ob_lt ((Keeps.refl _ _).drew))).trans hS5⟩
    · have hne : ((lo : Int) == (hi : Int)) = false := by simp; omega
      cases hk : Dia.known s2.1 ⟨v, lo, hi⟩ with
      | some j =>
        rw [hk] at hlk
        have hlk2 : ∀ p, (Instr.lookup 190 (.map (some kb)) (.agg #[.int .i64 (v : Int), .int .i64 (lo : Int), .int .i64 (hi : Int)]) true).run Try.prog (ext wc p) = .ok (.tuple #[.int .i64 j, .bool true]) (ext wc p) := hlk
        have HR2 := Lib.hid (HR.out.trans ((if_neg hlh).trans (by rw [hk])))
        clear hlk HR hlh hk
        go_wp2
        (refine wp_region_ext (by kernel_rfl) (by kernel_rfl) ?_; (repeat (go_big_quiet_step ((fail)))); refine wpQuiet_nil ?_; rintro _ ⟨pq, rfl⟩)
        have HBx := HB3.out.after (same_ext wc pq)
        have hSx := HS3.out.trans (Spares.of_same HB3.out.ob_lt (same_ext wc pq))
        have hst : ∃ w', (Instr.mapUpdate 191 (.map (some sb)) (.string (tabStr t)) (.int .i64 (j : Int))).run Try.prog (ext wc pq).drew = .ok () w' ∧ _ := ((HBx).seen.same ((Keeps.refl _ _).drew)).store tab_keyv HTOK.out j Try.underlying191
        have hcv1 := HCONV.out (ext wc pq) (HBx).same
        have hcv2 := HCONV.out (ext wc pq).drew (HBx).same.drew
        have hcm3 := (HBx).c2
        go_wp2
        go_still_tail 7, (by kernel_rfl)
        change wpList _ _ _ _ _ (ext wc pq).drew
        go_wp2_with (at_mapUpdate; refine wpList_mapUpdate_is _ rfl _ _ _ 191 rfl _ _ _ rfl rfl rfl _ hst ?_; rintro w5 ⟨hM, hK⟩)
        go_ret
        obtain ⟨hB5, hS5⟩ := ((HBx).after ((Keeps.refl _ _).drew)).seenStore hM hK
        rw [HR2.out]
        exact ⟨rfl, hB5, ((hSx).trans (Spares.of_same (HBx).ob_lt ((Keeps.refl _ _).drew))).trans hS5⟩
      | none =>
        rw [hk] at hlk
        have hlk2 : ∀ p, (Instr.lookup 190 (.map (some kb)) (.agg #[.int .i64 (v : Int), .int .i64 (lo : Int), .int .i64 (hi : Int)]) true).run Try.prog (ext wc p) = .ok (.tuple #[.int .i64 0, .bool false]) (ext wc p) := hlk
        have HR2 := Lib.hid (HR.out.trans ((if_neg hlh).trans (by rw [hk])))
        have HK := Lib.hid hk
        clear hlk HR hlh hk
        obtain ⟨i0, hi0, hz0, hz1, hz2⟩ := info_parts info_ch
        go_wp2
        (refine wp_region_ext (by kernel_rfl) (by kernel_rfl) ?_; (repeat (go_big_quiet_step ((fail)))); refine wpQuiet_nil ?_; rintro _ ⟨pq, rfl⟩)
        have hSx := HS3.out.trans (Spares.of_same HB3.out.ob_lt (same_ext wc pq))
        have HBx := HB3.out.after (same_ext wc pq)
        obtain ⟨cv, hcv, hown⟩ := HBx.c0
        have hfz := HBx.fz
        obtain ⟨len, hlen2⟩ : ∃ len, len = s2.1.length := ⟨_, rfl⟩
        rw [← hlen2] at hown
        have hne0 := World.new_ne (ext wc pq) ⟨ob, 0, none⟩ hcv
        have hne1 := World.new_ne (ext wc pq) ⟨g, 0, none⟩ (X0 pq)
        have hn1 := X0 pq
        have hn2 := X1 pq
        have hn3 := X2 pq
        have hgo : g ≠ ob := HO.out.1
        have hBs : B ≤ (ext wc pq).heap.size := HBx.lo.2.2.2.2.2.2.1
        have hobl : ob < (ext wc pq).heap.size := HBx.ob_lt
        have hgl : g < (ext wc pq).heap.size := World.block_lt_of_cell? (ext wc pq) ⟨g, 0, none⟩ hn1
        have HNO : Hid (some ob ≠ cv.ownBlock) := Lib.hid (fun e => by have := (hown.lt ob e.symm).1; have := HBx.lo; omega)
        have HNG : Hid (some g ≠ cv.ownBlock) := Lib.hid (fun e => (HO.out.same HB3.out.ob_lt (same_ext wc pq)).2.2.2 cv hcv e.symm)
        have hlb : len ≤ 200000 := by omega
        have KG : Hid (∀ X Y, Same (ext wc pq) X → X.grownBy Y cv.ownBlock → Hid (Keeps (fun k => some k ≠ cv.ownBlock) (ext wc pq) Y) ∧ Y.cell? ⟨ob, 0, none⟩ = some cv ∧ Y.frozen? ⟨ob, 0, none⟩ = false) :=
          Lib.hid fun X Y hX hY => by
            have h1 : ob < X.heap.size := Nat.lt_of_lt_of_le hobl hX.size
            exact ⟨Lib.hid ⟨hY.os.trans hX.os, hY.tape.trans hX.tape, hY.output.trans hX.output, Nat.le_trans hX.size hY.size, fun k hk hl => (hY.block k (Nat.lt_of_lt_of_le hl hX.size) hk).trans (hX.block k trivial hl)⟩,
              (hY.cell_far ⟨ob, 0, none⟩ h1 HNO.out).trans (hX.cell_of trivial hcv), (hY.frozen_far ⟨ob, 0, none⟩ h1 HNO.out).trans ((hX.frozen trivial hobl).trans hfz)⟩
        have HN2 := Lib.hid hlen2
        have HBX := Lib.hid HBx
        have HSX := Lib.hid hSx
        have HOW := Lib.hid hown
        clear hlen2 HBx hSx hown
        go_wp2
        go_region_law
          ((refine step_append_lies _ (by rfl) (.tmp 75) (.tmp 77) 43 (by rfl) B 136 i0 _ 3 24 Try.underlying43 hi0 hz0 hz1 hz2 (by decide) (by omega) cv len _ (by rfl) (by first | exact (HOW.out.alloc _).drew | exact (HOW.out.drew).alloc _) ⟨(ext wc pq).heap.size, 0, none⟩ 1 1 [.int .i64 (v : Int), .int .i64 (lo : Int), .int .i64 (hi : Int)] (by rfl) rfl (World.news_of_block (heap_alloc_new _ _)) (by simp [Value.oneCell']) (by omega) (by unfold maxLen; omega) (by omega) (by simp; omega) ((ext wc pq).heap.size + 1) (by simp) ?_; intro g2 cap2 w3 hown3 hgrow3 hat3 hlt3; obtain ⟨HX3, k0, kz⟩ := KG.out _ _ (by repeat (first | exact Keeps.refl _ _ | refine Keeps.drew ?_ | refine Keeps.alloc ?_ _)) hgrow3))
        all_goals
          have hK2 : Keeps (fun k => k ≠ ob ∧ some k ≠ cv.ownBlock) (ext wc pq) (w3.setCell ⟨ob, 0, none⟩ (.slice (some ⟨g2, 0, none⟩) (len + 1) cap2)) := (HX3.out.mono fun k hk _ => hk.2).setCell (p := ⟨ob, 0, none⟩) (fun k hk _ => hk.1) _
          have hlo := HBX.out.lo
          have hkbn : some kb ≠ cv.ownBlock := fun e => by have := (HOW.out.lt kb e.symm).1; omega
          have hsbn : some sb ≠ cv.ownBlock := fun e => by have := (HOW.out.lt sb e.symm).1; omega
          have e1 : w3.cell? ⟨ob, 1, none⟩ = some (.map (some kb)) := HX3.out.cell_of (S := fun k => some k ≠ cv.ownBlock) HNO.out HBX.out.c1
          have e2 : w3.cell? ⟨ob, 2, none⟩ = some (.map (some sb)) := HX3.out.cell_of (S := fun k => some k ≠ cv.ownBlock) HNO.out HBX.out.c2
          have d0 := HX3.out.cell_of (S := fun k => some k ≠ cv.ownBlock) HNG.out hn1
          have d1 := HX3.out.cell_of (S := fun k => some k ≠ cv.ownBlock) HNG.out hn2
          have d2 := HX3.out.cell_of (S := fun k => some k ≠ cv.ownBlock) HNG.out hn3
          have HKM := HBX.out.known.keeps hK2 ⟨Ne.symm hlo.2.2.2.2.2.2.2.1, hkbn⟩
          have hst1 : ∃ w', (Instr.mapUpdate 190 (.map (some kb)) (.agg #[.int .i64 (v : Int), .int .i64 (lo : Int), .int .i64 (hi : Int)]) (.int .i64 ((len + 2 : Nat) : Int))).run Try.prog (w3.setCell ⟨ob, 0, none⟩ (.slice (some ⟨g2, 0, none⟩) (len + 1) cap2)).drew = .ok () w' ∧ _ :=
            (HKM.same ((Keeps.refl _ _).drew)).store ch_keyv (x := ⟨v, lo, hi⟩) (show v ≤ 4294967296 ∧ lo ≤ 4294967296 ∧ hi ≤ 4294967296 by omega) (len + 2) Try.underlying190
          have c0' := World.cell?_setCell_same w3 ⟨ob, 0, none⟩ (.slice (some ⟨g2, 0, none⟩) (len + 1) cap2) k0
          have c1' : (w3.setCell ⟨ob, 0, none⟩ (.slice (some ⟨g2, 0, none⟩) (len + 1) cap2)).cell? ⟨ob, 1, none⟩ = _ := (World.cell?_setCell_other _ _ _ _ (by simp)).trans e1
          have c2' : (w3.setCell ⟨ob, 0, none⟩ (.slice (some ⟨g2, 0, none⟩) (len + 1) cap2)).cell? ⟨ob, 2, none⟩ = _ := (World.cell?_setCell_other _ _ _ _ (by simp)).trans e2
          have d0' := hK2.cell_of (S := fun k => k ≠ ob ∧ some k ≠ cv.ownBlock) ⟨hgo, HNG.out⟩ hn1
          have d1' := hK2.cell_of (S := fun k => k ≠ ob ∧ some k ≠ cv.ownBlock) ⟨hgo, HNG.out⟩ hn2
          have d2' := hK2.cell_of (S := fun k => k ≠ ob ∧ some k ≠ cv.ownBlock) ⟨hgo, HNG.out⟩ hn3
          have HK2 := Lib.hid hK2
          have HLO := Lib.hid hlo
          have HKB := Lib.hid hkbn
          have HSB := Lib.hid hsbn
          have hgo' : ¬ ob = g := fun e => hgo e.symm
          clear HKM hK2 hlo hkbn hsbn
          have hfz3 : (w3.setCell ⟨ob, 0, none⟩ (.slice (some ⟨g2, 0, none⟩) (len + 1) cap2)).frozen? ⟨ob, 0, none⟩ = false := by simpa using kz
          have hg2 : B ≤ g2 := (hown3.lt g2 rfl).1
          have hown4 : (w3.setCell ⟨ob, 0, none⟩ (.slice (some ⟨g2, 0, none⟩) (len + 1) cap2)).ownsRow B 136 3 _ _ _ := hown3.kept (((Keeps.refl (fun k => k ≠ ob) w3).setCell (p := ⟨ob, 0, none⟩) (fun k hk _ => hk) _).grownBy) (.inr (by have := HLO.out; simp [Value.ownBlock]; omega))
          have HOWN4 := Lib.hid hown4
          have HAT := Lib.hid hat3
          have HF3 := Lib.hid hfz3
          have HC0 := Lib.hid c0'
          clear hown4 hown3 hgrow3 hat3
          generalize w3.setCell ⟨ob, 0, none⟩ (.slice (some ⟨g2, 0, none⟩) (len + 1) cap2) = w3b at *
          go_wp2
          go_still_tail 6, (by kernel_rfl)
          change wpList _ _ _ _ _ w3b.drew
          go_wp2_with (at_mapUpdate; refine wpList_mapUpdate_is _ rfl _ _ _ 190 rfl _ _ _ rfl rfl rfl _ hst1 ?_; rintro w4 ⟨hM4, hK4⟩)
          have hP : Bld w0 ob kb sb B (s2.1 ++ [⟨v, lo, hi⟩], s2.2) w4 ∧ Spares ob kb sb (ext wc pq) w4 := by
            have hl := HN2.out
            subst hl
            exact HBX.out.push hcv HK2.out c0' c1' c2' HF3.out HOWN4.out HAT.out HK.out hM4 (((Keeps.refl _ _).drew).trans hK4)
          have HR3 : Hid (r = (len + 2, (s2.1 ++ [⟨v, lo, hi⟩], Dia.put s2.2 t (len + 2)))) := by rw [HN2.out]; exact HR2
          clear HR2
          have HR2 := HR3
          obtain ⟨hB4, hS4⟩ := hP
          have hS4' := HSX.out.trans hS4
          have HB4 := Lib.hid hB4
          have HS4 := Lib.hid hS4'
          clear hB4 hS4 hS4' hM4 hK4 hst1 HK2 HOWN4 HF3 HAT HBX HOW HSX
          have hst : ∃ w', (Instr.mapUpdate 191 (.map (some sb)) (.string (tabStr t)) (.int .i64 ((len + 2) : Int))).run Try.prog (w4).drew = .ok () w' ∧ _ := ((HB4.out).seen.same ((Keeps.refl _ _).drew)).store tab_keyv HTOK.out (len + 2) Try.underlying191
          have hcv1 := HCONV.out (w4) (HB4.out).same
          have hcv2 := HCONV.out (w4).drew (HB4.out).same.drew
          have hcm3 := (HB4.out).c2
          go_wp2
          go_still_tail 7, (by kernel_rfl)
          change wpList _ _ _ _ _ (w4).drew
          go_wp2_with (at_mapUpdate; refine wpList_mapUpdate_is _ rfl _ _ _ 191 rfl _ _ _ rfl rfl rfl _ hst ?_; rintro w5 ⟨hM, hK⟩)
          go_ret
          obtain ⟨hB5, hS5⟩ := ((HB4.out).after ((Keeps.refl _ _).drew)).seenStore hM hK
          rw [HR2.out]
          exact ⟨rfl, hB5, ((HS4.out).trans (Spares.of_same (HB4.out).ob_lt ((Keeps.refl _ _).drew))).trans hS5⟩
end Go.Proofs.Ytpokiglgjmcdoaa
