/- The engine, part 4: tests, fields, indexes, slice expressions. -/
import Derived.Test.YtpidkmegakdohaaGreatK3
namespace Go.Proofs.YtpidkmegakdohaaGreat.Kn
open Go
set_option linter.unusedVariables false
set_option linter.unusedSimpArgs false

theorem sl_shape {f : Fn} {nx : Nat} {z : Z} {nil : Bool} {b m i j len cap : Nat} {ex : Bool} {sz : Nat} {u : Value} (hu : RC f nx z (.sl nil b m i j len cap ex sz) u) : ∃ p n c, u = .slice p n c ∧ nil = p.isNone := by
  obtain ⟨_, h1, h2⟩ := hu
  cases nil with
  | true => obtain ⟨_, _, rfl⟩ := h1 rfl; exact ⟨_, _, _, rfl, rfl⟩
  | false => obtain ⟨c, rfl, _⟩ := h2 rfl; exact ⟨_, _, _, rfl, rfl⟩

theorem nilK_ok {f : Fn} {nx : Nat} {z : Z} {k : Nat} {x : CV} {r : Bool} {u : Value} (h : nilK k x = some r) (hu : RC f nx z x u) :
    (k = 0 ∧ ∃ p, u = .pointer p ∧ r = p.isNone) ∨ (k = 1 ∧ ∃ p n c, u = .slice p n c ∧ r = p.isNone) ∨ (k = 2 ∧ ∃ p, u = .map p ∧ r = p.isNone) ∨
      (k = 3 ∧ ((u = .nilFunc ∧ r = true) ∨ (∃ g a b, u = .func g a b ∧ r = false))) := by
  unfold nilK at h
  split at h <;> first | (cases h; done) | (simp only [Option.some.injEq] at h; subst h)
  · cases hu; exact .inl ⟨rfl, _, rfl, rfl⟩
  · cases hu; exact .inl ⟨rfl, _, rfl, rfl⟩
  · obtain ⟨_, rfl⟩ := hu; exact .inl ⟨rfl, _, rfl, rfl⟩
  · cases hu; exact .inr (.inl ⟨rfl, _, _, _, rfl, rfl⟩)
  · cases hu <;> exact .inr (.inl ⟨rfl, _, _, _, rfl, rfl⟩)
  · cases hu <;> exact .inr (.inl ⟨rfl, _, _, _, rfl, rfl⟩)
  · exact .inr (.inl ⟨rfl, sl_shape hu⟩)
  · cases hu; exact .inr (.inr (.inl ⟨rfl, _, rfl, rfl⟩))
  · obtain ⟨_, rfl⟩ := hu; exact .inr (.inr (.inl ⟨rfl, _, rfl, rfl⟩))
  · cases hu; exact .inr (.inr (.inr ⟨rfl, .inl ⟨rfl, rfl⟩⟩))
  · obtain ⟨rfl, _⟩ := hu; exact .inr (.inr (.inr ⟨rfl, .inr ⟨_, _, _, rfl, rfl⟩⟩))

theorem litNil_ok {f : Fn} {nx : Nat} {z : Z} {k : Nat} {x : CV} {u : Value} (h : litNil k x = true) (hu : RC f nx z x u) :
    (k = 0 ∧ u = .pointer none) ∨ (k = 1 ∧ ∃ n c, u = .slice none n c) ∨ (k = 2 ∧ u = .map none) ∨ (k = 3 ∧ u = .nilFunc) := by
  unfold litNil at h
  split at h <;> first | cases h | skip
  · cases hu; exact .inl ⟨rfl, rfl⟩
  · cases hu; exact .inr (.inl ⟨rfl, _, _, rfl⟩)
  · cases hu; exact .inr (.inr (.inl ⟨rfl, rfl⟩))
  · cases hu; exact .inr (.inr (.inr ⟨rfl, rfl⟩))

def kindD : Nat → TypeDesc → Prop
  | 0, d => ∃ e, d = .pointer e
  | 1, d => ∃ e, d = .slice e
  | 2, d => ∃ k e, d = .map k e
  | 3, d => ∃ a b c, d = .func a b c
  | _, _ => False

theorem eqNil_ok {P : Program} {f : Fn} {nx : Nat} {z : Z} {k : Nat} {x y : CV} {r : Bool} {u v : Value} (h : eqNil k x y = some r) (hu : RC f nx z x u) (hv : RC f nx z y v) {t : Nat} {d : TypeDesc}
    (ht : P.underlying t = some d) (hk : kindD k d) (D : Nat) (w : World) : (Op.equalIn (D + 1) t u v).run P w = .ok r w := by
  have hun : (underlying t).run P w = .ok d w := by simp [underlying, Sem.run_bind, Result.andThen, ht]
  unfold eqNil at h
  split at h
  · rename_i hl
    rcases litNil_ok hl hv with ⟨rfl, rfl⟩ | ⟨rfl, n, c, rfl⟩ | ⟨rfl, rfl⟩ | ⟨rfl, rfl⟩ <;>
      rcases nilK_ok h hu with ⟨h0, p, rfl, rfl⟩ | ⟨h0, p, n, c, rfl, rfl⟩ | ⟨h0, p, rfl, rfl⟩ | ⟨h0, (⟨rfl, rfl⟩ | ⟨g, a, b, rfl, rfl⟩)⟩ <;> first | (cases h0; done) | skip
    · obtain ⟨e, rfl⟩ := hk
      cases p <;> simp [Op.equalIn, Sem.run_bind, hun, Result.andThen]
    · obtain ⟨e, rfl⟩ := hk
      cases p <;> simp [Op.equalIn, Sem.run_bind, hun, Result.andThen]
    · obtain ⟨e, e', rfl⟩ := hk
      cases p <;> simp [Op.equalIn, Sem.run_bind, hun, Result.andThen]
    · obtain ⟨a, b, c, rfl⟩ := hk
      simp [Op.equalIn, Sem.run_bind, hun, Result.andThen]
    · obtain ⟨a, b, c, rfl⟩ := hk
      simp [Op.equalIn, Sem.run_bind, hun, Result.andThen]
  · split at h
    · rename_i hl
      rcases litNil_ok hl hu with ⟨rfl, rfl⟩ | ⟨rfl, n, c, rfl⟩ | ⟨rfl, rfl⟩ | ⟨rfl, rfl⟩ <;>
        rcases nilK_ok h hv with ⟨h0, p, rfl, rfl⟩ | ⟨h0, p, n, c, rfl, rfl⟩ | ⟨h0, p, rfl, rfl⟩ | ⟨h0, (⟨rfl, rfl⟩ | ⟨g, a, b, rfl, rfl⟩)⟩ <;> first | (cases h0; done) | skip
      · obtain ⟨e, rfl⟩ := hk
        cases p <;> simp [Op.equalIn, Sem.run_bind, hun, Result.andThen]
      · obtain ⟨e, rfl⟩ := hk
        cases p <;> simp [Op.equalIn, Sem.run_bind, hun, Result.andThen]
      · obtain ⟨e, e', rfl⟩ := hk
        cases p <;> simp [Op.equalIn, Sem.run_bind, hun, Result.andThen]
      · obtain ⟨a, b, c, rfl⟩ := hk
        simp [Op.equalIn, Sem.run_bind, hun, Result.andThen]
      · obtain ⟨a, b, c, rfl⟩ := hk
        simp [Op.equalIn, Sem.run_bind, hun, Result.andThen]
    · cases h

theorem kind_ptr {P : Program} {d : TypeDesc} {e : Nat} (h : kindOf P d = .ptr e) : kindD 0 d := ⟨e, kindOf_ptr h⟩
theorem kind_slice {P : Program} {d : TypeDesc} {e : Nat} (h : kindOf P d = .slice e) : kindD 1 d := ⟨e, kindOf_slice h⟩
theorem kind_map {P : Program} {d : TypeDesc} {k e : Nat} (h : kindOf P d = .map k e) : kindD 2 d := ⟨k, e, kindOf_map h⟩
theorem kind_fn {P : Program} {d : TypeDesc} (h : kindOf P d = .fn) : kindD 3 d := kindOf_fn h

/-- what is no nil interface, and no struct with an interface in it, is guarded by nothing -/
def plainEq (P : Program) (t : Nat) (u v : Value) : Prop := (∃ a b, u = .agg a ∧ v = .agg b ∧ P.eqGuardType P.depth t = false) ∨
  ((∀ a b, ¬ (u = .agg a ∧ v = .agg b)) ∧ ¬ (u = .nilIface ∧ v = .nilIface))

theorem eqGuard_ok {P : Program} {t : Nat} {u v : Value} (h : plainEq P t u v) (op : BinOp) (x y : Operand) (w : World) : (eqGuard op t x y u v).run P w = .ok () w := by
  rcases h with ⟨a, b, rfl, rfl, h⟩ | ⟨h1, h2⟩
  · exact run_eqGuard_agg w op t x y a b h
  · cases u <;> cases v <;> first
      | (exfalso; exact h1 _ _ ⟨rfl, rfl⟩)
      | (exfalso; exact h2 ⟨rfl, rfl⟩)
      | (cases op <;> simp [eqGuard])

theorem evEq_ok {P : Program} {G : Ctx} (hG : CtxOk P G) {f : Fn} {nx : Nat} {z : Z} {t : Nat} {x y : AV} {r : Bool} {u v : Value} (h : evEq G t x y = some r) (hu : RA f nx z x u) (hv : RA f nx z y v) (w : World) :
    (binOp .eql t u v).run P w = .ok (.bool r) w ∧ (binOp .neq t u v).run P w = .ok (.bool !r) w ∧ plainEq P t u v := by
  unfold evEq at h
  split at h
  · cases h
  · rename_i i hi
    have hT := hG.ti t i hi
    obtain ⟨d, hd, hk, _⟩ := hT.und
    -- by Op.equal
    have fin : (Op.equal t u v).run P w = .ok r w → (∀ k n m, ¬ (u = .int k n ∧ v = .int k m)) → (∀ k n k' m, ¬ (u = .int k n ∧ v = .int k' m)) → (∀ k n k' m, ¬ (u = .float k n ∧ v = .float k' m)) →
        (∀ k n m k' n' m', ¬ (u = .complex k n m ∧ v = .complex k' n' m')) → (∀ a b, ¬ (u = .string a ∧ v = .string b)) →
        (binOp .eql t u v).run P w = .ok (.bool r) w ∧ (binOp .neq t u v).run P w = .ok (.bool !r) w := by
      intro he h1 h2 h3 h4 h5
      cases u <;> cases v <;> first
        | (exfalso; exact h2 _ _ _ _ ⟨rfl, rfl⟩)
        | (exfalso; exact h3 _ _ _ _ ⟨rfl, rfl⟩)
        | (exfalso; exact h4 _ _ _ _ _ _ ⟨rfl, rfl⟩)
        | (exfalso; exact h5 _ _ ⟨rfl, rfl⟩)
        | exact ⟨by simp only [binOp, Sem.run_bind, he, Result.andThen_ok]; rfl, by simp only [binOp, Sem.run_bind, he, Result.andThen_ok]; rfl⟩
    -- nil tests
    have nils : ∀ (k : Nat) (a b : CV), eqNil k a b = some r → kindD k d → x = .one a → y = .one b → (binOp .eql t u v).run P w = .ok (.bool r) w ∧ (binOp .neq t u v).run P w = .ok (.bool !r) w ∧ plainEq P t u v := by
      rintro k a b hn hk rfl rfl
      have he : (Op.equal t u v).run P w = .ok r w := eqNil_ok hn hu hv hd hk 9999 w
      have shape : (∃ p, u = .pointer p) ∨ (∃ p n c, u = .slice p n c) ∨ (∃ p, u = .map p) ∨ u = .nilFunc ∨ (∃ g a b, u = .func g a b) := by
        unfold eqNil at hn
        split at hn
        · rcases nilK_ok hn hu with ⟨_, p, rfl, _⟩ | ⟨_, p, n, c, rfl, _⟩ | ⟨_, p, rfl, _⟩ | ⟨_, (⟨rfl, _⟩ | ⟨g, a, b, rfl, _⟩)⟩
          · exact .inl ⟨_, rfl⟩
          · exact .inr (.inl ⟨_, _, _, rfl⟩)
          · exact .inr (.inr (.inl ⟨_, rfl⟩))
          · exact .inr (.inr (.inr (.inl rfl)))
          · exact .inr (.inr (.inr (.inr ⟨_, _, _, rfl⟩)))
        · split at hn
          · rename_i hl
            rcases litNil_ok hl hu with ⟨_, rfl⟩ | ⟨_, n, c, rfl⟩ | ⟨_, rfl⟩ | ⟨_, rfl⟩
            · exact .inl ⟨_, rfl⟩
            · exact .inr (.inl ⟨_, _, _, rfl⟩)
            · exact .inr (.inr (.inl ⟨_, rfl⟩))
            · exact .inr (.inr (.inr (.inl rfl)))
          · cases hn
      have hx : ∀ k n k' m, ¬ (u = .int k n ∧ v = .int k' m) := by
        rintro k n k' m ⟨rfl, _⟩
        rcases shape with ⟨p, h⟩ | ⟨p, n, c, h⟩ | ⟨p, h⟩ | h | ⟨g, a, b, h⟩ <;> cases h
      have hfin := fin he (fun k n m => hx k n k m) hx (by
        rintro k n k' m ⟨rfl, _⟩
        rcases shape with ⟨p, h⟩ | ⟨p, n, c, h⟩ | ⟨p, h⟩ | h | ⟨g, a, b, h⟩ <;> cases h) (by
        rintro k n m k' n' m' ⟨rfl, _⟩
        rcases shape with ⟨p, h⟩ | ⟨p, n, c, h⟩ | ⟨p, h⟩ | h | ⟨g, a, b, h⟩ <;> cases h) (by
        rintro a b ⟨rfl, _⟩
        rcases shape with ⟨p, h⟩ | ⟨p, n, c, h⟩ | ⟨p, h⟩ | h | ⟨g, a, b, h⟩ <;> cases h)
      refine ⟨hfin.1, hfin.2, .inr ⟨?_, ?_⟩⟩
      · rintro a b ⟨rfl, _⟩
        rcases shape with ⟨p, h⟩ | ⟨p, n, c, h⟩ | ⟨p, h⟩ | h | ⟨g, a, b, h⟩ <;> cases h
      · rintro ⟨rfl, _⟩
        rcases shape with ⟨p, h⟩ | ⟨p, n, c, h⟩ | ⟨p, h⟩ | h | ⟨g, a, b, h⟩ <;> cases h
    split at h
    · rename_i a b hkk
      cases hu
      cases hv
      have hb := kindOf_bool (hk.trans hkk)
      subst hb
      simp only [Option.some.injEq] at h
      subst h
      have he : (Op.equal t (.bool a) (.bool b)).run P w = .ok (a == b) w := run_equalIn_bool' w 9999 t a b hd
      exact ⟨by simp only [binOp, Sem.run_bind, he, Result.andThen_ok]; rfl, by simp only [binOp, Sem.run_bind, he, Result.andThen_ok]; rfl, .inr ⟨(by rintro a b ⟨h, _⟩; cases h), (by rintro ⟨h, _⟩; cases h)⟩⟩
    · rename_i hkk; exact nils 0 _ _ h (kind_ptr (hk.trans hkk)) rfl rfl
    · rename_i hkk; exact nils 1 _ _ h (kind_slice (hk.trans hkk)) rfl rfl
    · rename_i hkk; exact nils 2 _ _ h (kind_map (hk.trans hkk)) rfl rfl
    · rename_i hkk; exact nils 3 _ _ h (kind_fn (hk.trans hkk)) rfl rfl
    · rename_i lx ly hkk
      split at h
      · cases h
      · rename_i ks hks
        rcases hT.eqs with h0 | ⟨h1, h2⟩
        · exact absurd h0 hks
        · have hag := hT.run_isAgg w
          have : i.agg = true := by
            obtain ⟨fs, rfl, _⟩ := kindOf_struct (hk.trans hkk)
            have := hT.agg
            rw [hd] at this
            simpa [isAggD] using this.symm
          rw [this] at hag
          have he := eqFlat w 20 t i.eqs h1 10000 (by omega) (.agg lx) (.agg ly) u v r hag trivial hu hv h
          obtain ⟨xs, rfl, _⟩ := hu
          obtain ⟨ys, rfl, _⟩ := hv
          exact ⟨by rw [run_eql_struct, he]; rfl, by rw [run_neq_struct, he]; rfl, .inl ⟨xs, ys, rfl, rfl, h2⟩⟩
    · cases h

theorem evBin_ok {P : Program} {G : Ctx} (hG : CtxOk P G) {f : Fn} {nx : Nat} {z : Z} {op : BinOp} {t : Nat} {x y r : AV} {u v : Value} (h : (evBin G op t x y).res = some r) (hu : RA f nx z x u) (hv : RA f nx z y v)
    (xo yo : Operand) (w : World) : ∃ q, (do eqGuard op t xo yo u v; binOp op t u v : Sem Value).run P w = .ok q w ∧ RA f nx z r q := by
  unfold evBin at h
  split at h
  · rename_i k a k' b
    cases hu; cases hv
    have hg : (eqGuard op t xo yo (.int k a) (.int k' b)).run P w = .ok () w := eqGuard_ok (.inr ⟨(by rintro a b ⟨h, _⟩; cases h), (by rintro ⟨h, _⟩; cases h)⟩) op xo yo w
    simp only [Sem.run_bind, hg, Result.andThen_ok]
    split at h
    · obtain ⟨q, h1, h2⟩ := T.bind_some h
      have h2 := T.ret_some h2
      subst h2
      obtain ⟨h3, h4⟩ := shiftInt_ok (P := P) (k' := k') h1 t w
      exact ⟨q, h3, RF.lit q h4⟩
    · obtain ⟨q, h1, h2⟩ := T.bind_some h
      have h2 := T.ret_some h2
      subst h2
      obtain ⟨h3, h4⟩ := shiftInt_ok (P := P) (k' := k') h1 t w
      exact ⟨q, h3, RF.lit q h4⟩
    · split at h
      · rename_i hk
        simp only [decide_eq_true_eq] at hk
        subst hk
        obtain ⟨q, h1, h2⟩ := T.bind_some h
        have h2 := T.ret_some h2
        subst h2
        obtain ⟨h3, h4⟩ := binInt_ok (P := P) h1 t w
        exact ⟨q, h3, RF.lit q h4⟩
      · exact (T.bad_some h).elim
  · rename_i a b
    cases hu; cases hv
    have hg : (eqGuard op t xo yo (.string a) (.string b)).run P w = .ok () w := eqGuard_ok (.inr ⟨(by rintro a b ⟨h, _⟩; cases h), (by rintro ⟨h, _⟩; cases h)⟩) op xo yo w
    simp only [Sem.run_bind, hg, Result.andThen_ok]
    obtain ⟨q, h1, h2⟩ := T.bind_some h
    have h2 := T.ret_some h2
    subst h2
    obtain ⟨h3, h4⟩ := binStr_ok (P := P) h1 t w
    exact ⟨q, h3, RF.lit q h4⟩
  · split at h
    · split at h
      · rename_i b hb
        have h2 := T.ret_some h
        subst h2
        obtain ⟨h1, _, h3⟩ := evEq_ok hG hb hu hv w
        simp only [Sem.run_bind, eqGuard_ok h3 .eql xo yo w, Result.andThen_ok]
        exact ⟨_, h1, RF.lit _ rfl⟩
      · exact (T.bad_some h).elim
    · split at h
      · rename_i b hb
        have h2 := T.ret_some h
        subst h2
        obtain ⟨_, h1, h3⟩ := evEq_ok hG hb hu hv w
        simp only [Sem.run_bind, eqGuard_ok h3 .neq xo yo w, Result.andThen_ok]
        exact ⟨_, h1, RF.lit _ rfl⟩
      · exact (T.bad_some h).elim
    · exact (T.bad_some h).elim

theorem evUn_ok {P : Program} {f : Fn} {nx : Nat} {z : Z} {op : UnOp} {x r : CV} {u : Value} (h : (evUn op x).res = some r) (hu : RC f nx z x u) (w : World) : ∃ q, (Op.unary op u).run P w = .ok q w ∧ RC f nx z r q := by
  unfold evUn at h
  split at h
  · have h2 := T.ret_some h
    subst h2
    cases hu
    exact ⟨_, by simp [Op.unary], RF.lit _ rfl⟩
  · have h2 := T.ret_some h
    subst h2
    cases hu
    exact ⟨_, by simp [Op.unary, Op.intArith], RF.lit _ rfl⟩
  · exact (T.bad_some h).elim

theorem inRange_some {α : Type} {i : Int} {n : Nat} {t : T α} {r : α} (h : (inRange i n t).res = some r) : 0 ≤ i ∧ i < (n : Int) ∧ t.res = some r := by
  obtain ⟨h1, h2⟩ := T.need_some h
  simp only [decide_eq_true_eq] at h1
  exact ⟨h1.1, h1.2, h2⟩

theorem atIndex_some {α : Type} {sym : Bool} {n : Nat} {i : Int} {k : Nat → T α} {r : α} (h : (atIndex sym n i k).res = some r) : (k i.toNat).res = some r := by
  cases sym with
  | false => exact h
  | true =>
    simp only [atIndex] at h
    have key : ∀ (m c : Nat), (atIndex.go i k m c).res = some r → (k i.toNat).res = some r := by
      intro m
      induction m with
      | zero => intro c h; exact (T.bad_some h).elim
      | succ m ih =>
        intro c h
        simp only [atIndex.go] at h
        rcases T.br_some h with ⟨hc, h1⟩ | ⟨_, h1⟩
        · simp only [decide_eq_true_eq] at hc
          rw [hc]
          exact h1
        · exact ih (c + 1) h1
    exact key n 0 h

end Go.Proofs.YtpidkmegakdohaaGreat.Kn
