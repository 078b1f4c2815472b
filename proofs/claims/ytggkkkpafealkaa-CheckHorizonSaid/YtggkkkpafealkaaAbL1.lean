/- From a law's run to the given statement's walk; the row's last step over 'Below'. -/
import Derived.Test.YtggkkkpafealkaaAbK1
import Derived.Below
import Derived.ChangeSame
namespace Go.Ab
open Go Go.RowKit
variable {P : Program}
/-- a law over ints, bools and strings: what its run says of the machine -/
theorem law_calls (hmix : P.follows .mixedOrders = true) {f : Nat} {args : List A} {vs : Array Value} (h : Runs P f args [] (.d (.bool true)) []) (w : World) (hr : ∀ g : G, RepL (RepA g w) args vs.toList) :
    Calls P f vs w fun e w' => e = .returned (.bool true) ∧ Below w.heap.size w w' := by
  obtain ⟨_, fn, body, h1, h2, h3, h4, hc⟩ := runs_sound hmix _ _ _ _ _ h
  let E : Env := { w0 := w, bl := fun _ => 0, S0 := fun _ _ => False, pb := [] }
  let g : G := { PB := fun _ => False, PC := fun _ => False, β := fun _ => 0, cb := fun _ => 0, S := fun _ _ => False, used := fun _ => 0, cap := fun _ => 0, sz := fun _ => 0 }
  have hl : vs.size = args.length := by have := (hr g).length; simpa using this
  have nomem : ∀ k m, (initSt fn.ntmps args []).mem k = some m → False := by
    intro k m hm
    obtain ⟨i, cs, _, h5, _⟩ := memOf_some (bs := []) hm
    cases h5
  have hinit : RepG E g E.w0 (initAct fn.ntmps vs) (initSt fn.ntmps args []) := by
    refine ⟨rfl, fun k h => h.elim, fun k h => h.elim, ?_, ?_, fun k cs hk => (nomem k _ hk).elim, fun k u hk => (nomem k _ hk).elim, ?_, fun k cs hk => (nomem k _ hk).elim, fun k u hk => (nomem k _ hk).elim, rfl, rfl, rfl, Nat.le_refl _, fun _ _ _ => rfl, fun _ _ h => h, fun _ _ h => .inl h, fun _ _ h => h.elim, fun i cs hk => (nomem _ _ hk).elim, fun b hb => by cases hb⟩
    · show (vs ++ Array.replicate (fn.ntmps - vs.size) undef).size = fn.ntmps
      simp; omega
    · intro t
      show RepA _ _ (args.getD t .undef) ((vs ++ Array.replicate (fn.ntmps - vs.size) undef).getD t undef)
      by_cases ht : t < args.length
      · obtain ⟨v, hv, hrv⟩ := (hr g).get (List.getElem?_eq_getElem ht)
        have e1 : args.getD t .undef = args[t] := by simp [ht]
        have e2 : (vs ++ Array.replicate (fn.ntmps - vs.size) undef).getD t undef = v := by
          have ht' : t < vs.size := by omega
          have hv' : vs[t]? = some v := by simpa using hv
          rw [Array.getD_eq_getD_getElem?, Array.getElem?_append_left ht', hv']
          rfl
        rw [e1, e2]; exact hrv
      · have e1 : args.getD t .undef = .undef := by simp [Nat.le_of_not_lt ht]
        rw [e1]; trivial
    · rintro k l b (⟨cs, hk, _⟩ | ⟨u, hk, _⟩) _ <;> exact (nomem k _ hk).elim
  refine (hc E g vs (by omega) hinit hl (fun i hi => by simp at hi) (fun b => by simp [E])).mono ?_
  rintro e w' ⟨v, S', rfl, F⟩
  have hv : v = .bool true := F.res { g with S := S' } rfl
  subst hv
  exact ⟨rfl, F.os, F.tape, F.out, F.size, fun k hk => F.old k hk (by simp [E])⟩
end Go.Ab
namespace Go.Ab
open Go.WideShapes Go.ChangeShapes Go.RowKit
variable {H : Type} {enc : TypeId × Value → H} {P : Program}
/-- the row's last step, where of old memory 'Below' is known -/
theorem post_below {f : Func} {s : ChangeSpec} {apart fresh handsOn again : Bool} {W W' : World} {args : Array Value} {v : Value} {ds gs : List (DataW H)} {before pa pv : List MemPlace}
    (hW : DataW.Whole enc P f.params.toList s.vars apart W args.toList ds gs before)
    (hres : ∀ (b : Nat) (sp : Nat → Bool) (hd : Bool), DataW.TrodAll enc P W' b sp hd f.resultTypes.toList (v.resultList f.resultTypes.size) (s.fn H (ds ++ gs)).results [])
    (hargs : ∀ sp : Nat → Bool, (∀ p ∈ before, sp p.block = true) → DataW.TrodAll enc P W' 0 sp true f.params.toList args.toList (s.fn H (ds ++ gs)).args pa)
    (hvars : ∀ sp : Nat → Bool, (∀ p ∈ before, sp p.block = true) → DataW.TrodVars enc P W' sp s.vars (s.fn H (ds ++ gs)).vars pv)
    (hps : before = pa ++ pv) (hb : Below W.heap.size W W')
    (hok : ∀ (j : Nat) (t : TypeId) (r : Value), f.resultTypes[j]? = some t → (v.resultList f.resultTypes.size)[j]? = some r → Value.okWide P W' .any 0 t r) :
    s.post enc P f apart fresh handsOn again W args v W' := by
  have hlt : ∀ p ∈ before, p.block < W.heap.size := fun p hp => hW.lt p hp
  refine ⟨ds, gs, before, [], pa, pv, hW, hres _ _ _, hargs _ fun p hp => by simpa using hlt p hp, hvars _ fun p hp => by simpa using hlt p hp, World.keptBut_mono (fun p hp => ⟨hp, .inr ?_⟩) (hb.frame (· ∈ before)), fun _ => ?_⟩
  · rwa [hps, List.mem_append] at hp
  · obtain ⟨_, _, _, _, _, hz, hn⟩ := hW
    refine ⟨hok, _, _, ([] ++ pa) ++ pv, ⟨[] ++ pa, pv, trodAll_append (hargs _ fun _ _ => rfl) (hres _ _ _), hvars _ fun _ _ => rfl, rfl, fun b off hp => ?_, fun ha => ?_⟩, ?_⟩
    · have hin : MemPlace.cell b off ∈ before := by rw [hps]; simpa using hp
      rw [hb.frozen (hlt _ hin)]; exact hz b off hin
    · have := hn ha
      rw [hps] at this; simpa using this
    · intro p hp _
      rw [hps]; simpa using hp
end Go.Ab
