/-
  Maps that a call makes: what they hold is a function from keys. No function of the program in sight.
-/
import Derived.Test.YtpokiglgjmcdoaaMem
import Derived.Maps.OwnSet
import Derived.MapFrom
import Derived.Laws.BytesString
set_option linter.unusedVariables false
set_option linter.unusedSimpArgs false
namespace Um
open Go Go.RowKit Go.BigFrame Go.Maps Go.ChangeShapes Go.WideShapes

/-- values as keys: the valid ones read as keys, and differ -/
structure KeyV (P : Program) (K : TypeId) {κ : Type} (kc : κ → Value) (V : κ → Prop) : Prop where
  law : Keyed P K
  key : ∀ x, V x → ∃ l, keyOf P K (kc x) = some l
  inj : ∀ x y, V x → V y → kc x = kc y → x = y

/-- THE MAP HOLDS WHAT f SAYS -/
def MapIs {κ α : Type} (kc : κ → Value) (V : κ → Prop) (vc : α → Value) (w : World) (mb : Nat) (f : κ → Option α) : Prop :=
  ∃ es clock, w.heap[mb]? = some (.map es clock) ∧ (∀ e ∈ es.toList, ∃ x v, V x ∧ e.key = kc x ∧ e.val = vc v ∧ f x = some v) ∧
    (∀ x v, f x = some v → V x ∧ ∃ e ∈ es.toList, e.key = kc x) ∧ (es.toList.map (·.key)).Nodup
section
variable {P : Program} {K : TypeId} {κ α : Type} {kc : κ → Value} {V : κ → Prop} {vc : α → Value} {w w' : World} {mb : Nat} {f : κ → Option α}
theorem MapIs.lt (h : MapIs kc V vc w mb f) : mb < w.heap.size := by
  obtain ⟨es, clock, h, _⟩ := h
  exact (Array.getElem?_eq_some_iff.1 h).1
theorem MapIs.keeps {S : Nat → Prop} (h : MapIs kc V vc w mb f) (hk : Keeps S w w') (hS : S mb) : MapIs kc V vc w' mb f := by
  obtain ⟨es, clock, h, he⟩ := h
  exact ⟨es, clock, (hk.block _ hS (Array.getElem?_eq_some_iff.1 h).1).trans h, he⟩
theorem MapIs.same (h : MapIs kc V vc w mb f) (hk : Same w w') : MapIs kc V vc w' mb f := h.keeps hk trivial
theorem MapIs.made (w : World) : MapIs kc V vc (w.alloc (.map #[] 0)) w.heap.size (fun _ => none) :=
  ⟨#[], 0, heap_alloc_new w _, by simp, by simp, by simp⟩
theorem MapIs.congr {g : κ → Option α} (h : MapIs kc V vc w mb f) (e : ∀ x, f x = g x) : MapIs kc V vc w mb g := by
  obtain rfl : f = g := funext e
  exact h

theorem MapIs.find (H : KeyV P K kc V) (h : MapIs kc V vc w mb f) {x : κ} (hx : V x) (u : World) : ∃ es clock, w.heap[mb]? = some (.map es clock) ∧
    (((Instr.findKey K (kc x) es.toList).run P u = .ok none u ∧ f x = none ∧ ∀ e ∈ es.toList, e.key ≠ kc x) ∨
      ∃ j e v, (Instr.findKey K (kc x) es.toList).run P u = .ok (some (j, e.val)) u ∧ es[j]? = some e ∧ e.key = kc x ∧ e.val = vc v ∧ f x = some v) := by
  obtain ⟨es, clock, hb, he, hf, hn⟩ := h
  refine ⟨es, clock, hb, ?_⟩
  obtain ⟨l, hl⟩ := H.key x hx
  rcases H.law.find u hl es.toList (fun e hm => by obtain ⟨y, v, hy, hk, _⟩ := he e hm; rw [hk]; exact H.key y hy) with ⟨h1, h2⟩ | ⟨j, e, h1, h2, h3⟩
  · refine .inl ⟨h1, ?_, h2⟩
    cases hfx : f x with
    | none => rfl
    | some v => obtain ⟨_, e, hm, hk⟩ := hf x v hfx; exact absurd hk (h2 e hm)
  · obtain ⟨y, v, hy, hk, hv, hfy⟩ := he e (List.mem_of_getElem? h2)
    obtain rfl := H.inj x y hx hy (h3.symm.trans hk)
    exact .inr ⟨j, e, v, h1, by simpa using h2, h3, hv, hfy⟩

theorem MapIs.look (H : KeyV P K kc V) (h : MapIs kc V vc w mb f) {x : κ} (hx : V x) {T E : TypeId} (hT : P.underlying T = some (.map K E)) {z : Value} (hz : ∀ u, (zeroValue E).run P u = .ok z u) :
    (Instr.lookup T (.map (some mb)) (kc x) true).run P w = .ok (.tuple #[((f x).map vc).getD z, .bool (f x).isSome]) w := by
  obtain ⟨l, hl⟩ := H.key x hx
  obtain ⟨es, clock, hb, ⟨h1, h2, _⟩ | ⟨j, e, v, h1, h2, h3, h4, h5⟩⟩ := h.find H hx w
  · simp [Instr.lookup, run_underlying hT, MapKept.run_getObj_map hb, H.law.check _ _ hl, h1, hz, h2, Result.andThen]
  · simp [Instr.lookup, run_underlying hT, MapKept.run_getObj_map hb, H.law.check _ _ hl, h1, h4, h5, Result.andThen]
theorem MapIs.look1 (H : KeyV P K kc V) (h : MapIs kc V vc w mb f) {x : κ} (hx : V x) {T E : TypeId} (hT : P.underlying T = some (.map K E)) {z : Value} (hz : ∀ u, (zeroValue E).run P u = .ok z u) :
    (Instr.lookup T (.map (some mb)) (kc x) false).run P w = .ok (((f x).map vc).getD z) w := by
  obtain ⟨l, hl⟩ := H.key x hx
  obtain ⟨es, clock, hb, ⟨h1, h2, _⟩ | ⟨j, e, v, h1, h2, h3, h4, h5⟩⟩ := h.find H hx w
  · simp [Instr.lookup, run_underlying hT, MapKept.run_getObj_map hb, H.law.check _ _ hl, h1, hz, h2, Result.andThen]
  · simp [Instr.lookup, run_underlying hT, MapKept.run_getObj_map hb, H.law.check _ _ hl, h1, h4, h5, Result.andThen]

theorem keys_modify (es : Array MapEntry) (j : Nat) (g : MapEntry → MapEntry) (e : MapEntry) (he : es[j]? = some e) (hg : (g e).key = e.key) : ((es.modify j g).toList.map (·.key)) = es.toList.map (·.key) := by
  apply List.ext_getElem?
  intro i
  simp only [List.getElem?_map, Array.getElem?_toList, Array.getElem?_modify]
  split
  · rename_i h; subst h; simp [he, hg]
  · rfl

theorem MapIs.store [DecidableEq κ] (H : KeyV P K kc V) (h : MapIs kc V vc w mb f) {x : κ} (hx : V x) (v : α) {T E : TypeId} (hT : P.underlying T = some (.map K E)) :
    ∃ w', (Instr.mapUpdate T (.map (some mb)) (kc x) (vc v)).run P w = .ok () w' ∧ MapIs kc V vc w' mb (fun y => if y = x then some v else f y) ∧ Keeps (fun b => b ≠ mb) w w' := by
  have hlt := h.lt
  obtain ⟨l, hl⟩ := H.key x hx
  obtain ⟨es0, clock0, hb0, he, hf, hn⟩ := id h
  have keep : ∀ es' clock', Keeps (fun b => b ≠ mb) w { heap := w.heap.setIfInBounds mb (.map es' clock'), tape := w.tape, drawn := w.drawn, os := w.os, output := w.output } :=
    fun es' clock' => ⟨rfl, rfl, rfl, by simp, fun k hk _ => by simp [Array.getElem?_setIfInBounds, Ne.symm hk]⟩
  obtain ⟨es, clock, hb, hc⟩ := h.find H hx w
  rw [hb0] at hb; cases hb
  rcases hc with ⟨h1, h2, h3⟩ | ⟨j, e, v0, h1, h2, h3, h4, h5⟩
  · refine ⟨_, by simp [Instr.mapUpdate, run_underlying hT, MapKept.run_getObj_map hb0, H.law.check _ _ hl, h1, MapKept.run_setObj_map _ hb0, Result.andThen]; rfl, ⟨_, _, by simp [Array.getElem?_setIfInBounds, hlt]; exact ⟨rfl, rfl⟩, ?_, ?_, ?_⟩, keep _ _⟩
    · intro e hm
      rw [Array.toList_push, List.mem_append, List.mem_singleton] at hm
      rcases hm with hm | rfl
      · obtain ⟨y, u, hy, hk, hv, hfy⟩ := he e hm
        exact ⟨y, u, hy, hk, hv, (if_neg (by rintro rfl; rw [h2] at hfy; cases hfy)).trans hfy⟩
      · exact ⟨x, v, hx, rfl, rfl, if_pos rfl⟩
    · intro y u hy
      simp only at hy
      split at hy
      · rename_i e; subst e
        exact ⟨hx, _, by rw [Array.toList_push]; exact List.mem_append.2 (.inr (List.mem_singleton.2 rfl)), rfl⟩
      · obtain ⟨q1, e, q2, q3⟩ := hf y u hy
        exact ⟨q1, e, by rw [Array.toList_push]; exact List.mem_append.2 (.inl q2), q3⟩
    · rw [Array.toList_push, List.map_append, List.nodup_append]
      refine ⟨hn, by simp, ?_⟩
      intro a ha b hb'
      obtain ⟨e, hm, rfl⟩ := List.mem_map.1 ha
      simp at hb'; subst hb'
      exact h3 e hm
  · have hst := H.law.stays w hl
    refine ⟨_, by simp [Instr.mapUpdate, run_underlying hT, MapKept.run_getObj_map hb0, H.law.check _ _ hl, h1, h2, h3, hst, MapKept.run_setObj_map _ hb0, Result.andThen]; rfl, ⟨_, _, by simp [Array.getElem?_setIfInBounds, hlt]; exact ⟨rfl, rfl⟩, ?_, ?_, ?_⟩, keep _ _⟩
    · intro e' hm
      obtain ⟨i, hi⟩ := List.getElem?_of_mem hm
      rw [Array.getElem?_toList, Array.getElem?_modify] at hi
      split at hi
      · rename_i hj; subst hj
        simp only [h2, Option.map_some, Option.some.injEq] at hi
        subst hi
        exact ⟨x, v, hx, rfl, rfl, if_pos rfl⟩
      · rename_i hj
        have hm' : e' ∈ es0.toList := List.mem_of_getElem? (by rw [Array.getElem?_toList]; exact hi)
        obtain ⟨y, u, hy, hk, hv, hfy⟩ := he e' hm'
        refine ⟨y, u, hy, hk, hv, (if_neg ?_).trans hfy⟩
        rintro rfl
        have p1 := hi
        obtain ⟨l1, g1⟩ := Array.getElem?_eq_some_iff.1 p1
        obtain ⟨l2, g2⟩ := Array.getElem?_eq_some_iff.1 h2
        have hp := List.pairwise_iff_getElem.1 hn
        simp only [List.length_map, Array.length_toList, List.getElem_map, Array.getElem_toList] at hp
        rcases Nat.lt_trichotomy i j with hl' | hl' | hl'
        · exact hp i j l1 l2 hl' (by rw [g1, g2, hk, h3])
        · exact hj hl'.symm
        · exact hp j i l2 l1 hl' (by rw [g1, g2, hk, h3])
    · intro y u hy
      have hkm : (es0.modify j fun e => { key := kc x, val := vc v, born := e.born }).toList.map (·.key) = es0.toList.map (·.key) := keys_modify es0 j _ e h2 h3.symm
      have hmem : ∀ y, (∃ e ∈ es0.toList, e.key = kc y) → ∃ e ∈ (es0.modify j fun e => { key := kc x, val := vc v, born := e.born }).toList, e.key = kc y := by
        rintro y ⟨e, hm, hk⟩
        have : kc y ∈ es0.toList.map (·.key) := List.mem_map.2 ⟨e, hm, hk⟩
        rw [← hkm] at this
        obtain ⟨e', hm', hk'⟩ := List.mem_map.1 this
        exact ⟨e', hm', hk'⟩
      simp only at hy
      split at hy
      · rename_i e; subst e
        exact ⟨hx, hmem _ (hf _ _ h5).2⟩
      · exact ⟨(hf y u hy).1, hmem _ (hf y u hy).2⟩
    · rw [keys_modify es0 j _ e h2 h3.symm]; exact hn
end

/-! at the operations -/
section
variable {P : Program} {ops : Array Oper} {rest : List Oper} {o : Oper} {a : Act} {Q : Exit → Act → World → Prop}
theorem wpList_lookup_is (w : World) (hg : o.guard = none) (m x : Operand) (t : TypeId) (ok : Bool) (hop : o.op = Op.lookup t m x ok) (mv kv r : Value) (hm : a.eval m = mv) (hx : a.eval x = kv)
    (h : (Instr.lookup t mv kv ok).run P w = .ok r w) (hK : wpList P ops Q rest (a.put o.dst r) w) : wpList P ops Q (o :: rest) a w := by
  refine wpList_plain hg fun K' hK' => ?_
  unfold Oper.wp
  simp [execOp, hop, hm, hx, h, Result.andThen]
  exact hK' _ _ hK
theorem wpList_mapUpdate_is (w : World) (hg : o.guard = none) (m x v : Operand) (t : TypeId) (hop : o.op = Op.mapUpdate t m x v) (mv kv vv : Value) (hm : a.eval m = mv) (hx : a.eval x = kv) (hv : a.eval v = vv)
    (R : World → Prop) (h : ∃ w', (Instr.mapUpdate t mv kv vv).run P w = .ok () w' ∧ R w') (hK : ∀ w', R w' → wpList P ops Q rest (a.put o.dst undef) w') : wpList P ops Q (o :: rest) a w := by
  refine wpList_plain hg fun K' hK' => ?_
  obtain ⟨w', hrun, hR⟩ := h
  unfold Oper.wp
  simp [execOp, hop, hm, hx, hv, hrun, Result.andThen]
  exact hK' _ _ (hK w' hR)
end

/-- a table as a string -/
def tabStr (t : List Nat) : ByteArray := (t.map fun x : Nat => (x : Int)).foldl (fun r n => r.push (UInt8.ofNat n.toNat)) ByteArray.empty
theorem tabStr_go (t : List Nat) : ∀ b : ByteArray, ((t.map fun x : Nat => (x : Int)).foldl (fun r n => r.push (UInt8.ofNat n.toNat)) b).data.toList = b.data.toList ++ t.map UInt8.ofNat := by
  induction t with
  | nil => intro b; simp
  | cons x xs ih =>
    intro b
    simp only [List.map_cons, List.foldl_cons, ih]
    simp [ByteArray.push]
theorem tabStr_list (t : List Nat) : (tabStr t).data.toList = t.map UInt8.ofNat := by
  have := tabStr_go t ByteArray.empty
  simpa [tabStr] using this
theorem tabStr_size (t : List Nat) : (tabStr t).size = t.length := by
  have h := congrArg List.length (tabStr_list t)
  rw [Array.length_toList, List.length_map] at h
  exact h
theorem tabStr_inj {t u : List Nat} (ht : ∀ x ∈ t, x < 2) (hu : ∀ x ∈ u, x < 2) (h : tabStr t = tabStr u) : t = u := by
  have h1 : t.map UInt8.ofNat = u.map UInt8.ofNat := by rw [← tabStr_list, ← tabStr_list, h]
  apply List.ext_getElem?
  intro i
  have h2 := congrArg (fun l => l[i]?) h1
  simp only [List.getElem?_map] at h2
  cases ha : t[i]? with
  | none =>
    rw [ha] at h2
    cases hb : u[i]? with
    | none => rfl
    | some y => rw [hb] at h2; cases h2
  | some x =>
    rw [ha] at h2
    cases hb : u[i]? with
    | none => rw [hb] at h2; cases h2
    | some y =>
      rw [hb] at h2
      have hx := ht x (List.mem_of_getElem? ha)
      have hy := hu y (List.mem_of_getElem? hb)
      simp only [Option.map_some, Option.some.injEq] at h2
      have h3 := congrArg UInt8.toNat h2
      simp at h3
      congr 1
      omega
end Um
