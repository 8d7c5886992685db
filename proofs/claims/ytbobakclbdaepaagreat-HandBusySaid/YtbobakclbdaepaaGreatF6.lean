/- The engine, part 29: slices that came in; a law's end. -/
import Derived.Test.YtbobakclbdaepaaGreatF5
namespace Go.Proofs.YtbobakclbdaepaaGreat.En
open Go
set_option linter.unusedVariables false
set_option linter.unusedSimpArgs false

/-- all that there is -/
def zAll (w : World) : Z := fun k o => w.cell? ⟨k, o, none⟩

theorem slice_arg {w : World} {sz : Nat} {ss : List Sh} {α : Type} [Inhabited α] {fs : α → List FV} (hfs : ∀ a, (fs a).length = sz)
    (hx : ∀ k o, RShs w ss k o → ∃ a : α, ∀ (j : Nat) y, (fs a)[j]? = some y → ∃ u, w.cell? ⟨k, o + j, none⟩ = some u ∧ RF (zAll w) y u)
    {v : Value} (h : RSh w (.sl sz ss) v) : ∃ nl n, ∃ x : Nat → α, RF (zAll w) (.fs nl sz n fun i => fs (x i)) v ∧ (nl = true → n = 0) ∧ n ≤ maxLen ∧ (∃ a cap, v = .slice a n cap) := by
  simp only [RSh] at h
  rcases h with rfl | ⟨a, n, cap, rfl, h1, h2, h3⟩
  · exact ⟨true, 0, fun _ => default, .fsn _ _, fun _ => rfl, Nat.zero_le _, _, _, rfl⟩
  · rcases Nat.eq_zero_or_pos n with rfl | hpos
    · exact ⟨false, 0, fun _ => default, .fs0 _ _ _ _, (fun h => by cases h), Nat.zero_le _, _, _, rfl⟩
    · obtain ⟨k, o, rfl, hs⟩ := h3 hpos
      have hc : ∀ i, i < n → ∃ a : α, ∀ (j : Nat) y, (fs a)[j]? = some y → ∃ u, w.cell? ⟨k, o + i * sz + j, none⟩ = some u ∧ RF (zAll w) y u := fun i hi => hx k (o + i * sz) (hs i hi)
      refine ⟨false, n, fun i => if hi : i < n then Classical.choose (hc i hi) else default, ?_, (fun h => by cases h), by omega, _, _, rfl⟩
      have key : ∀ i j, i < n → j < sz → ∃ u, w.cell? ⟨k, o + (i * sz + j), none⟩ = some u ∧ u.oneCell' = true ∧
          ∀ y, (fs (if hi : i < n then Classical.choose (hc i hi) else default))[j]? = some y → RF (zAll w) y u := fun i j hi hj => by
        have hcs := Classical.choose_spec (hc i hi)
        rw [dif_pos hi]
        have hlt : j < (fs (Classical.choose (hc i hi))).length := by rw [hfs]; exact hj
        obtain ⟨u, h4, h5⟩ := hcs j _ (List.getElem?_eq_getElem hlt)
        refine ⟨u, by rw [← Nat.add_assoc]; exact h4, h5.one, fun y hy => ?_⟩
        rw [List.getElem?_eq_getElem hlt] at hy
        simp only [Option.some.injEq] at hy
        rw [← hy]; exact h5
      refine .fss sz n _ k o cap (fun i j => ((w.cell? ⟨k, o + (i * sz + j), none⟩).getD undef)) h1 (fun i j hi hj => ?_) (fun i j x hi hj hx' => ?_) (fun i j hi hj => ?_)
      · obtain ⟨u, h4, _, _⟩ := key i j hi hj
        simp only [zAll, h4, Option.getD_some]
      · obtain ⟨u, h4, _, h6⟩ := key i j hi hj
        simp only [h4, Option.getD_some]
        exact h6 x hx'
      · obtain ⟨u, h4, h5, _⟩ := key i j hi hj
        simp only [h4, Option.getD_some]
        exact h5

/-- a law that comes to true -/
theorem law_true {P : Program} {G : Ctx} (hG : CtxOk P G) (hK : KnownOk P G) {wr : List Nat} {n g : Nat} {args : List AV} {w : World} {vs : Array Value} (ha : RAs noFn 0 (zAll w) args vs.toList)
    (h : (evCallW wr G n g args [] 0).res = some (out0 (.v (AB true)))) :
    Calls P g vs w fun e w' => e = .returned (.bool true) ∧ Go.RowKit.Below w.heap.size w w' := by
  refine evCallW_ok hG hK h noFn (zAll w) w vs (Rel.seen ⟨fun k o v h => h⟩) ha _ fun f' z' w' v' hp hv' => ⟨?_, hp.below⟩
  rw [lit_ok hv']

end Go.Proofs.YtbobakclbdaepaaGreat.En
