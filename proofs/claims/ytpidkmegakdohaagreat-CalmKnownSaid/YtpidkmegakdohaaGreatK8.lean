/- The engine, part 8: append, copy, clear and their kin. -/
import Derived.Test.YtpidkmegakdohaaGreatK7
namespace Go.Proofs.YtpidkmegakdohaaGreat.Kn
open Go
set_option linter.unusedVariables false
set_option linter.unusedSimpArgs false

theorem Rel.drew {S : Nat → Prop} {f : Fn} {nx : Nat} {z : Z} {w : World} {H : Heap} (h : Rel S f nx z w H) : Rel S f nx z w.drew H :=
  ⟨fun b hb hl => ⟨(h.own b hb hl).1, ⟨(h.own b hb hl).2.lt, (h.own b hb hl).2.own, (h.own b hb hl).2.room, (h.own b hb hl).2.cell, (h.own b hb hl).2.map, (h.own b hb hl).2.cold⟩⟩, h.inj, h.zok⟩

theorem Post.undrew {S : Nat → Prop} {f : Fn} {nx : Nat} {z : Z} {w : World} {H : Heap} {f' : Fn} {nx' : Nat} {z' : Z} {w' : World} {H' : Heap} {esc : Bool} (h : Post S f nx z w.drew H f' nx' z' w' H' esc) : Post S f nx z w H f' nx' z' w' H' esc :=
  ⟨h.hnx, h.ext, h.zle, h.znew, h.same, h.dead, h.rel, h.fresh, ⟨h.fr.size, h.fr.os, h.fr.tape, h.fr.output, h.fr.block⟩, h.noesc⟩

theorem Post.congr {S : Nat → Prop} {f : Fn} {nx : Nat} {z : Z} {w : World} {H : Heap} {f' : Fn} {nx' : Nat} {z' : Z} {w' : World} {H' H'' : Heap} {esc : Bool} (h : Post S f nx z w H f' nx' z' w' H' esc)
    (e : ∀ b, H''.get b = H'.get b) : Post S f nx z w H f' nx' z' w' H'' esc := by
  refine ⟨h.hnx, h.ext, h.zle, h.znew, fun b hb hs => by rw [e]; exact h.same b hb hs, fun b hb hl => h.dead b hb (by rw [← e]; exact hl), ⟨fun b hb hl => ?_, fun b c hb hc hl hl' => h.rel.inj b c hb hc (by rw [← e]; exact hl) (by rw [← e]; exact hl'), h.rel.zok⟩,
    fun b hb hl => h.fresh b hb (by rw [← e]; exact hl), h.fr, fun he m hm hN b l hb hg => h.noesc he m hm hN b l hb (by rw [← e]; exact hg)⟩
  rw [e] at hl ⊢
  exact h.rel.own b hb hl

theorem Post.kill {S : Nat → Prop} {f : Fn} {nx : Nat} {z : Z} {w : World} {H : Heap} {f' : Fn} {nx' : Nat} {z' : Z} {w' : World} {H' : Heap} {esc : Bool} (h : Post S f nx z w H f' nx' z' w' H' esc) (b : Nat) (hS : S b) :
    Post S f nx z w H f' nx' z' w' (H'.put b .dead) esc := by
  have hg : ∀ c, (H'.put b .dead).get c = if b = c then .dead else H'.get c := Heap.get_put H' b .dead
  have hl : ∀ c, ((H'.put b .dead).get c).live → (H'.get c).live ∧ b ≠ c := fun c hc => by
    rw [hg] at hc
    by_cases e : b = c
    · rw [if_pos e] at hc; exact hc.elim
    · rw [if_neg e] at hc; exact ⟨hc, e⟩
  refine ⟨h.hnx, h.ext, h.zle, h.znew, fun c hc hs => ?_, fun c hc hcl => h.dead c hc (hl c hcl).1, ⟨fun c hc hcl => ?_, fun c d hc hd hcl hdl => h.rel.inj c d hc hd (hl c hcl).1 (hl d hdl).1, h.rel.zok⟩, fun c hc hcl => h.fresh c hc (hl c hcl).1, h.fr, fun he m hm hN c l hc hgc => ?_⟩
  · rw [hg, if_neg (fun (e : b = c) => hs (e ▸ hS))]; exact h.same c hc hs
  · have := h.rel.own c hc (hl c hcl).1
    rw [hg, if_neg (hl c hcl).2]
    exact this
  · rw [hg] at hgc
    by_cases e : b = c
    · rw [if_pos e] at hgc; cases hgc
    · rw [if_neg e] at hgc; exact h.noesc he m hm hN c l hc hgc

/-- an own block goes on as a new one, from an offset on -/
theorem Post.move {S : Nat → Prop} {f : Fn} {nx : Nat} {z : Z} {w w' : World} {H : Heap} (hr : Rel S f nx z w H) (hno : ∀ b, nx ≤ b → ¬ (H.get b).live) {b : Nat} (hS : S b) (hl : (H.get b).live) (o : Ob) (hnm : ¬ o.isMap) (off : Nat) (hoff : off ≤ (f b).t)
    (hsize : w'.heap.size = w.heap.size) (hos : w'.os = w.os ∧ w'.tape = w.tape ∧ w'.output = w.output) (hother : ∀ k, k ≠ (f b).k → w'.heap[k]? = w.heap[k]?) (hcold : frange w' (f b).k = frange w (f b).k)
    (hroom : ∀ p, p < (f b).t → (∃ v, w'.cell? ⟨(f b).k, (f b).d + p, none⟩ = some v ∧ v.oneCell' = true) ∧ w'.frozen? ⟨(f b).k, (f b).d + p, none⟩ = false)
    (hat : ∀ m i j x, o.at m i j = some x → off + (i * m + j) < (f b).t ∧ ∃ v, w'.cell? ⟨(f b).k, (f b).d + (off + (i * m + j)), none⟩ = some v ∧ RC f nx z x v) {esc : Bool} :
    Post S f nx z w H (upd f nx ⟨(f b).k, (f b).d + off, (f b).t - off⟩) (nx + 1) z w' ((H.put b .dead).put nx o) esc := by
  obtain ⟨hb, hok⟩ := hr.own b hS hl
  have hg : ∀ c, Heap.get ((H.put b .dead).put nx o) c = if nx = c then o else if b = c then .dead else H.get c := fun c => by rw [Heap.get_cons, Heap.get_put]
  have hold : ∀ c, (S c ∨ nx ≤ c) → (Heap.get ((H.put b .dead).put nx o) c).live → c = nx ∨ (c < nx ∧ S c ∧ (H.get c).live ∧ b ≠ c) := by
    intro c hc hcl
    by_cases e : nx = c
    · exact .inl e.symm
    · rw [hg, if_neg e] at hcl
      by_cases e2 : b = c
      · rw [if_pos e2] at hcl; exact hcl.elim
      · rw [if_neg e2] at hcl
        have : ¬ nx ≤ c := fun h => hno c h hcl
        exact .inr ⟨by omega, hc.resolve_right this, hcl, e2⟩
  have hk : ∀ c, S c → (H.get c).live → b ≠ c → (f c).k ≠ (f b).k := fun c hc hcl hne => hr.inj c b hc hS hcl hl (Ne.symm hne)
  have hc? : ∀ k p, k ≠ (f b).k → w'.cell? ⟨k, p, none⟩ = w.cell? ⟨k, p, none⟩ := fun k p hk => World.cell?_of_block (w := w) (hother k hk)
  have hf? : ∀ k p, k ≠ (f b).k → w'.frozen? ⟨k, p, none⟩ = w.frozen? ⟨k, p, none⟩ := fun k p hk => World.frozen?_of_block (w := w) (hother k hk)
  refine ⟨by omega, upd_ext _ _ _, fun _ _ _ h => h, fun _ _ _ h => .inl h, fun c hc hs => ?_, fun c hc hcl => ?_, ⟨fun c hc hcl => ?_, fun c d hc hd hcl hdl hne => ?_, fun k p v hv => ?_⟩, fun c hc hcl => ?_, ⟨by rw [hsize]; exact Nat.le_refl _, hos.1, hos.2.1, hos.2.2, fun k _ hk => hother k fun e => hk ⟨b, hS, hl, e.symm⟩⟩, fun _ m hm hN c l hc hgc x hx => ?_⟩
  · left; rw [hg, if_neg (by omega), if_neg (fun (e : b = c) => hs (e ▸ hS))]
  · rw [hg, if_neg (by omega)] at hcl
    by_cases e2 : b = c
    · rw [if_pos e2] at hcl; exact hcl.elim
    · rw [if_neg e2] at hcl; exact hcl
  · rcases hold c hc hcl with rfl | ⟨hlt, hs, hl0, hne⟩
    · rw [hg, if_pos rfl]
      refine ⟨by omega, ⟨by rw [upd_same, hsize]; exact hok.lt, fun p => by rw [upd_same]; exact hok.own p, fun p hp => ?_, fun m i j x hx => ?_, fun es he => absurd (by rw [he]; trivial) hnm, fun lo hi hq => by
        rw [upd_same] at hq ⊢
        simp only at hq ⊢
        rw [hcold] at hq
        exact (hok.cold lo hi hq).imp id fun h => by omega⟩⟩
      · rw [upd_same] at hp ⊢
        simp only at hp ⊢
        have := hroom (off + p) (by omega)
        rw [← Nat.add_assoc] at this
        exact this
      · obtain ⟨h1, v, hv, hc⟩ := hat m i j x hx
        refine ⟨by rw [upd_same]; simp only; omega, v, ?_, RC.mono (upd_ext _ _ _) (by omega) (fun _ _ _ h => h) hc⟩
        simp only [ad, upd_same]
        rw [Nat.add_assoc]
        exact hv
    · rw [hg, if_neg (by omega), if_neg hne]
      obtain ⟨_, h0⟩ := hr.own c hs hl0
      have hkc := hk c hs hl0 hne
      have e := upd_ext f nx ⟨(f b).k, (f b).d + off, (f b).t - off⟩ c hlt
      refine ⟨by omega, ⟨by rw [e, hsize]; exact h0.lt, fun p => by rw [e]; exact h0.own p, fun p hp => ?_, fun m i j x hx => ?_, fun es he => by rw [e, hother _ hkc]; exact h0.map es he, fun lo hi hq => by rw [e] at hq ⊢; rw [frange_block (hother _ hkc)] at hq; exact h0.cold lo hi hq⟩⟩
      · rw [e] at hp ⊢
        rw [hc? _ _ hkc, hf? _ _ hkc]; exact h0.room p hp
      · obtain ⟨h1, v, h2, h3⟩ := h0.cell m i j x hx
        refine ⟨by rw [e]; exact h1, v, ?_, RC.mono (upd_ext _ _ _) (by omega) (fun _ _ _ h => h) h3⟩
        simp only [ad, e]
        rw [hc? _ _ hkc]; exact h2
  · rcases hold c hc hcl with rfl | ⟨hlt, hs, hl0, hne1⟩
    · rcases hold d hd hdl with rfl | ⟨hlt', hs', hl0', hne2⟩
      · exact absurd rfl hne
      · rw [upd_same, upd_ext _ _ _ _ hlt']
        exact (hk d hs' hl0' hne2).symm
    · rcases hold d hd hdl with rfl | ⟨hlt', hs', hl0', hne2⟩
      · rw [upd_same, upd_ext _ _ _ _ hlt]
        exact hk c hs hl0 hne1
      · rw [upd_ext _ _ _ _ hlt, upd_ext _ _ _ _ hlt']
        exact hr.inj c d hs hs' hl0 hl0' hne
  · have hk : k ≠ (f b).k := fun e => by rw [e, hok.own] at hv; cases hv
    rw [hc? _ _ hk]; exact hr.zok k p v hv
  · rcases hold c (.inr hc) hcl with rfl | ⟨hlt, _⟩
    · right; rw [upd_same]; exact ⟨b, hS, hl, rfl⟩
    · omega
  · rw [hg, if_neg (by omega)] at hgc
    by_cases e2 : b = c
    · rw [if_pos e2] at hgc; cases hgc
    · rw [if_neg e2] at hgc; exact hN c l hc hgc x hx

theorem selL_chunks {sz : Nat} : ∀ (n : Nat) (r : List FV) (j : Nat), j < n → selL (chunks sz n r) j = chop sz r j
  | 0, _, _, h => by omega
  | 1, r, j, h => by
    have : j = 0 := by omega
    subst this
    simp [chunks, selL, chop]
  | n + 2, r, j, h => by
    have e : selL (chunks sz (n + 2) r) j = iteL (Nat.beq j 0) (r.take sz) (selL (chunks sz (n + 1) (r.drop sz)) (j - 1)) := rfl
    rw [e, iteL_eq]
    cases j with
    | zero => simp [chop]
    | succ j =>
      simp only [Nat.add_sub_cancel]
      rw [selL_chunks (n + 1) (r.drop sz) j (by omega)]
      have : Nat.beq (j + 1) 0 = false := rfl
      rw [this]
      simp only [chop, List.drop_drop, Nat.add_mul, Nat.one_mul, Nat.add_comm]

/-- what a source stands for -/
def SrcOk (f : Fn) (nx : Nat) (z : Z) (sz : Nat) : Src → List Value → Prop
  | .flat n l, vs => (vs.length = n * sz ∧ ∀ v ∈ vs, v.oneCell' = true) ∧ RL f nx z l vs
  | .fn n e, vs => (vs.length = n * sz ∧ ∀ v ∈ vs, v.oneCell' = true) ∧ ∀ i j x, i < n → j < sz → (e i)[j]? = some x → ∃ v, vs[i * sz + j]? = some v ∧ RF z x v

theorem SrcOk.len {f : Fn} {nx : Nat} {z : Z} {sz : Nat} {s : Src} {vs : List Value} (h : SrcOk f nx z sz s vs) : vs.length = s.n * sz := by
  cases s <;> exact h.1.1

theorem SrcOk.all {f : Fn} {nx : Nat} {z : Z} {sz : Nat} {s : Src} {vs : List Value} (h : SrcOk f nx z sz s vs) : ∀ v ∈ vs, v.oneCell' = true := by
  cases s <;> exact h.1.2

theorem SrcOk.fn? {f : Fn} {nx : Nat} {z : Z} {sz : Nat} {s : Src} {vs : List Value} (h : SrcOk f nx z sz s vs) {n : Nat} {e : Nat → List FV} (hs : s.fn? sz = some (n, e)) : SrcOk f nx z sz (.fn n e) vs ∧ n = s.n := by
  cases s with
  | fn m g =>
    simp only [Src.fn?, Option.some.injEq, Prod.mk.injEq] at hs
    obtain ⟨rfl, rfl⟩ := hs
    exact ⟨h, rfl⟩
  | flat m l =>
    simp only [Src.fn?] at hs
    split at hs
    · rename_i r hr
      simp only [Option.some.injEq, Prod.mk.injEq] at hs
      obtain ⟨rfl, rfl⟩ := hs
      have hl := fvs?_eq _ _ hr
      subst hl
      refine ⟨⟨h.1, fun i j x hi hj hx => ?_⟩, rfl⟩
      rw [selL_chunks m r i hi] at hx
      simp only [chop, List.getElem?_take] at hx
      rw [if_pos hj, List.getElem?_drop] at hx
      have hlt : i * sz + j < vs.length := by
        rw [← h.2.1]
        have := (List.getElem?_eq_some_iff.1 hx).1
        simpa using this
      refine ⟨vs[i * sz + j], List.getElem?_eq_getElem hlt, ?_⟩
      exact h.2.2 (i * sz + j) (.f x) _ (by simp [hx]) (List.getElem?_eq_getElem hlt)
    · cases hs

theorem Src.app_ok {f : Fn} {nx : Nat} {z : Z} {sz : Nat} {a b c : Src} {u v : List Value} (ha : SrcOk f nx z sz a u) (hb : SrcOk f nx z sz b v) (h : a.app sz b = some c) : SrcOk f nx z sz c (u ++ v) ∧ c.n = a.n + b.n := by
  have fns : ∀ n e k g, a.fn? sz = some (n, e) → b.fn? sz = some (k, g) → c = .fn (n + k) (fun i => iteL (Nat.ble (i + 1) n) (e i) (g (i - n))) → SrcOk f nx z sz c (u ++ v) ∧ c.n = a.n + b.n := by
    rintro n e k g h1 h2 rfl
    obtain ⟨a1, a2⟩ := ha.fn? h1
    obtain ⟨b1, b2⟩ := hb.fn? h2
    refine ⟨⟨⟨by rw [List.length_append, a1.1.1, b1.1.1, Nat.add_mul], fun y hy => (List.mem_append.1 hy).elim (a1.1.2 y) (b1.1.2 y)⟩, fun i j x hi hj hx => ?_⟩, by rw [Src.n, a2, b2]⟩
    dsimp only at hx
    rw [iteL_eq] at hx
    by_cases hin : i < n
    · rw [show Nat.ble (i + 1) n = true from Nat.ble_eq_true_of_le hin] at hx
      obtain ⟨q, q1, q2⟩ := a1.2 i j x hin hj hx
      refine ⟨q, ?_, q2⟩
      rw [List.getElem?_append_left (List.getElem?_eq_some_iff.1 q1).1]
      exact q1
    · have : Nat.ble (i + 1) n = false := by
        cases hq : Nat.ble (i + 1) n with
        | false => rfl
        | true => have := nble hq; omega
      rw [this] at hx
      obtain ⟨q, q1, q2⟩ := b1.2 (i - n) j x (by omega) hj hx
      refine ⟨q, ?_, q2⟩
      have e : i * sz + j = n * sz + ((i - n) * sz + j) := by
        rw [← Nat.add_assoc, ← Nat.add_mul]
        congr 2
        omega
      rw [e, List.getElem?_append_right (by rw [a1.1.1]; omega), a1.1.1, Nat.add_sub_cancel_left]
      exact q1
  unfold Src.app at h
  split at h
  · rename_i n l k r
    simp only [Option.some.injEq] at h
    subst h
    exact ⟨⟨⟨by rw [List.length_append, ha.1.1, hb.1.1, Nat.add_mul], fun y hy => (List.mem_append.1 hy).elim (ha.1.2 y) (hb.1.2 y)⟩, ha.2.append hb.2⟩, rfl⟩
  · split at h
    · rename_i n e k g h1 h2
      simp only [Option.some.injEq] at h
      exact fns n e k g h1 h2 h.symm
    · cases h

def Src.ob (sz : Nat) : Src → Ob
  | .flat _ l => .cells l
  | .fn n e => .arr true sz n e

theorem SrcOk.at {f : Fn} {nx : Nat} {z : Z} {sz : Nat} {s : Src} {vs : List Value} (h : SrcOk f nx z sz s vs) (m i j : Nat) (x : CV) (hx : (s.ob sz).at m i j = some x) : ∃ v, vs[i * m + j]? = some v ∧ RC f nx z x v := by
  cases s with
  | flat n l =>
    simp only [Src.ob, Ob.at] at hx
    split at hx
    · rename_i hz
      obtain ⟨rfl, rfl⟩ := hz
      have hlt : j < vs.length := by rw [← h.2.1]; exact (List.getElem?_eq_some_iff.1 hx).1
      refine ⟨vs[j], by simp [hlt], h.2.2 j x _ hx (List.getElem?_eq_getElem hlt)⟩
    · cases hx
  | fn n e =>
    simp only [Src.ob, Ob.at] at hx
    split at hx
    · rename_i hz
      obtain ⟨_, rfl, hi, hj⟩ := hz
      cases hq : (e i)[j]? with
      | none => rw [hq] at hx; cases hx
      | some y =>
        rw [hq] at hx
        simp only [Option.map_some, Option.some.injEq] at hx
        subst hx
        exact h.2 i j y hi hj hq
    · cases hx

theorem Src.ob_noMap (s : Src) (sz : Nat) : ¬ (s.ob sz).isMap := by cases s <;> exact id

theorem growBy_le (n : Nat) : ∀ (r c B : Nat), n + (n + 768) / 4 ≤ B → c ≤ B → Builtin.growBy n r c ≤ B
  | 0, c, B, _, h => h
  | r + 1, c, B, hB, h => by
    simp only [Builtin.growBy]
    split
    · exact h
    · exact growBy_le n r _ B hB (by omega)

theorem nextslicecap_le {n c : Nat} (h : c < n) : Builtin.nextslicecap n c ≤ 2 * n + 512 := by
  unfold Builtin.nextslicecap
  split
  · omega
  · split
    · omega
    · exact growBy_le n 4 c _ (by omega) (by omega)

section src
variable {P : Program}

theorem loadCells_len {w : World} {ad : Addr} {n : Nat} {g : Nat → Value} (h : ∀ j, j < n → w.cell? (ad.add j) = some (g j)) : (loadCells ad n).run P w = .ok ((List.range n).map g).toArray w := run_loadCells w ad n g h

/-- where a source's cells lie -/
inductive Lay (sz : Nat) (u : Value) (n : Nat) (g : Nat → Value) (w : World) : Prop
  | none (hu : u = .slice none 0 0) (hn : n = 0)
  | str (b : ByteArray) (hu : u = .string b) (hn : n = b.size) (hs : sz = 1) (hg : ∀ j, g j = .int .u8 (b.data.toList.getD j 0).toNat)
  | mem (a : Addr) (cap : Nat) (hu : u = .slice (some a) n cap) (hc : ∀ j, j < n * sz → w.cell? (a.add j) = some (g j))

/-- a source's cells, as the model loads them -/
theorem srcOf_lay {S : Nat → Prop} {f : Fn} {nx : Nat} {z : Z} {w : World} {H : Heap} {sz : Nat} {x : CV} {s : Src} {fp : List Nat} {u : Value} (h : (srcOf H sz x).res = some (s, fp)) (hr : Rel S f nx z w H) (hS : ∀ b ∈ fp, S b) (hu : RC f nx z x u) :
    ∃ g : Nat → Value, Lay sz u s.n g w ∧ SrcOk f nx z sz s ((List.range (s.n * sz)).map g) := by
  unfold srcOf at h
  split at h
  · have h := T.ret_some h
    simp only [Prod.mk.injEq] at h
    obtain ⟨rfl, rfl⟩ := h
    cases hu
    exact ⟨fun _ => undef, .none rfl rfl, by simpa [Src.n] using ⟨⟨by simp, by simp⟩, RL.nil⟩⟩
  · have h := T.ret_some h
    simp only [Prod.mk.injEq] at h
    obtain ⟨rfl, rfl⟩ := h
    cases hu with
    | z0n => exact ⟨fun _ => undef, .none rfl rfl, by simpa [Src.n] using ⟨⟨by simp, by simp⟩, RL.nil⟩⟩
    | z0s a => exact ⟨fun _ => undef, .mem a 0 rfl (fun j hj => by simp [Src.n] at hj), by simpa [Src.n] using ⟨⟨by simp, by simp⟩, RL.nil⟩⟩
  · rename_i b
    split at h
    · rename_i h1
      have h1 := nbeq h1
      subst h1
      have h := T.ret_some h
      simp only [Prod.mk.injEq] at h
      obtain ⟨rfl, rfl⟩ := h
      cases hu
      have hlen : b.data.toList.length = b.size := by simp
      have hmap : (List.range (b.size * 1)).map (fun j => Value.int .u8 (b.data.toList.getD j 0).toNat) = b.data.toList.map fun c => Value.int .u8 c.toNat := by
        apply List.ext_getElem?
        intro i
        simp only [List.getElem?_map, Nat.mul_one]
        by_cases hi : i < b.size
        · rw [List.getElem?_range hi, List.getElem?_eq_getElem (by rw [hlen]; exact hi)]
          simp only [Option.map_some, List.getD_eq_getElem?_getD]
          rw [List.getElem?_eq_getElem (by rw [hlen]; exact hi)]
          rfl
        · rw [List.getElem?_eq_none (by simpa using hi), List.getElem?_eq_none (by rw [hlen]; omega)]
          rfl
      refine ⟨fun j => .int .u8 (b.data.toList.getD j 0).toNat, .str b rfl rfl rfl (fun _ => rfl), ?_⟩
      simp only [Src.n]
      rw [hmap]
      refine ⟨⟨by simp, fun v hv => ?_⟩, ⟨by simp, fun i x v hx hv => ?_⟩⟩
      · simp only [List.mem_map] at hv
        obtain ⟨_, _, rfl⟩ := hv
        rfl
      · simp only [List.getElem?_map] at hx hv
        cases hq : b.data.toList[i]? with
        | none => rw [hq] at hx; cases hx
        | some c =>
          rw [hq] at hx hv
          simp only [Option.map_some, Option.some.injEq] at hx hv
          subst hx
          subst hv
          exact RF.lit _ rfl
    · exact (T.bad_some h).elim
  · rename_i nil sz' n e
    split at h
    · rename_i hsz
      have hsz := nbeq hsz
      subst hsz
      have h := T.ret_some h
      simp only [Prod.mk.injEq] at h
      obtain ⟨rfl, rfl⟩ := h
      cases hu with
      | fsn => exact ⟨fun _ => undef, .none rfl rfl, ⟨by simp [Src.n], by simp [Src.n]⟩, fun i j x hi => by omega⟩
      | fs0 _ _ a cap => exact ⟨fun _ => undef, .mem a cap rfl (fun j hj => by simp [Src.n] at hj), ⟨by simp [Src.n], by simp [Src.n]⟩, fun i j x hi => by omega⟩
      | fss _ _ _ k o cap g hc h1 h2 h3 =>
        have hdiv : ∀ q, q < n * sz' → q / sz' < n ∧ q % sz' < sz' ∧ q / sz' * sz' + q % sz' = q := by
          intro q hq
          have hpos : 0 < sz' := Nat.pos_of_ne_zero fun e => by simp [e] at hq
          refine ⟨(Nat.div_lt_iff_lt_mul hpos).2 hq, Nat.mod_lt _ hpos, ?_⟩
          have := Nat.div_add_mod q sz'
          rw [Nat.mul_comm]; exact this
        refine ⟨fun q => g (q / sz') (q % sz'), .mem ⟨k, o, none⟩ cap rfl (fun q hq => ?_), ⟨by simp [Src.n], fun v hv => ?_⟩, fun i j x hi hj hx => ?_⟩
        · obtain ⟨a1, a2, a3⟩ := hdiv q hq
          have := hr.zok _ _ _ (h1 _ _ a1 a2)
          rw [a3] at this
          rw [show (⟨k, o, none⟩ : Addr).add q = ⟨k, o + q, none⟩ by unfold Addr.add; split <;> simp_all]
          exact this
        · simp only [List.mem_map, List.mem_range] at hv
          obtain ⟨q, hq, rfl⟩ := hv
          obtain ⟨a1, a2, _⟩ := hdiv q hq
          exact h3 _ _ a1 a2
        have hlt : i * sz' + j < n * sz' := by
          have : (i + 1) * sz' ≤ n * sz' := Nat.mul_le_mul_right _ hi
          rw [Nat.add_mul] at this
          omega
        refine ⟨g i j, ?_, h2 i j x hi hj hx⟩
        have hpos : 0 < sz' := by omega
        simp only [Src.n, List.getElem?_map, List.getElem?_range hlt, Option.map_some, Option.some.injEq]
        rw [Nat.mul_comm i, Nat.mul_add_div hpos, Nat.div_eq_of_lt hj, Nat.mul_add_mod, Nat.mod_eq_of_lt hj]
        rfl
    · exact (T.bad_some h).elim
  · rename_i nil b m a j len cap ex sz'
    split at h
    · rename_i hsz
      have hsz := nbeq hsz
      subst hsz
      obtain ⟨hb, hX0, hX1⟩ := hu
      split at h
      · rename_i l hob
        split at h
        · rename_i hm
          rw [Bool.and_eq_true] at hm
          have m1 := nbeq hm.1
          have m2 := nbeq hm.2
          subst m1 m2
          obtain ⟨hnil, h⟩ := T.need_some h
          have hnil : nil = false := by simpa using hnil
          subst hnil
          dsimp only at h
          split at h
          · rename_i hlen
            have hlen := nbeq hlen
            have h := T.ret_some h
            simp only [Prod.mk.injEq] at h
            obtain ⟨rfl, rfl⟩ := h
            obtain ⟨cap', rfl, c1, c2, c3, c4⟩ := hX1 rfl
            have hl : (H.get b).live := by rw [hob]; trivial
            obtain ⟨_, hok⟩ := hr.own b (hS b (by simp)) hl
            have hrd : ((H.get b).rd 0 0 j (len * sz')).res = some ((l.drop j).take (len * sz')) := by
              rw [hob]
              simp only [Ob.rd]
              rw [show (Nat.beq 0 0 && Nat.beq 0 0) = true from rfl]
              simp only
              rw [hlen, Nat.beq_refl]
              rfl
            obtain ⟨vs, r1, r2, r3⟩ := hok.read hrd
            have hvs : (List.range (len * sz')).map (fun q => vs.getD q undef) = vs := by
              apply List.ext_getElem?
              intro q
              simp only [List.getElem?_map]
              by_cases hq : q < len * sz'
              · rw [List.getElem?_range hq, List.getElem?_eq_getElem (by rw [r2]; exact hq)]
                simp only [Option.map_some, List.getD_eq_getElem?_getD]
                rw [List.getElem?_eq_getElem (by rw [r2]; exact hq)]
                rfl
              · rw [List.getElem?_eq_none (by simpa using hq), List.getElem?_eq_none (by rw [r2]; omega)]
                rfl
            refine ⟨fun q => vs.getD q undef, .mem (ad f b 0 0 j) cap' rfl (fun q hq => ?_), ?_⟩
            · refine r3 q _ ?_
              simp only [List.getD_eq_getElem?_getD]
              rw [List.getElem?_eq_getElem (by rw [r2]; exact hq)]
              rfl
            · simp only [Src.n]
              rw [hvs]
              exact ⟨⟨r2, r1.all⟩, r1⟩
          · exact (T.bad_some h).elim
        · exact (T.bad_some h).elim
      · rename_i live zz N e hob
        split at h
        · rename_i hm
          simp only [Bool.and_eq_true] at hm
          obtain ⟨⟨m1, m2⟩, m3⟩ := hm
          have m1 := nbeq m1
          have m2 := nbeq m2
          have m3 := nbeq m3
          subst m1 m3
          obtain ⟨hn, h⟩ := T.need_some h
          rw [Bool.and_eq_true] at hn
          have hN := nble hn.2
          have h := T.ret_some h
          simp only [Prod.mk.injEq] at h
          obtain ⟨rfl, rfl⟩ := h
          cases nil with
          | true =>
            obtain ⟨rfl, _, rfl⟩ := hX0 rfl
            exact ⟨fun _ => undef, .none rfl rfl, ⟨by simp [Src.n], by simp [Src.n]⟩, fun i j x hi => by omega⟩
          | false =>
            have hlive : live = true := by simpa using hn.1
            subst hlive
            obtain ⟨cap', rfl, c1, c2, c3, c4⟩ := hX1 rfl
            have hl : (H.get b).live := by rw [hob]; rfl
            obtain ⟨_, hok⟩ := hr.own b (hS b (by simp)) hl
            have hsome : ∀ q, q < len * m → ∃ v, w.cell? ((ad f b m a 0).add q) = some v ∧ v.oneCell' = true := fun q hq => by
              have : len * m ≤ cap' * m := Nat.mul_le_mul_right _ c1
              obtain ⟨v, hv, hv1⟩ := (hok.room (a * m + 0 + q) (by omega)).1
              rw [ad_add]
              exact ⟨v, by simp only [ad]; rw [← hv]; congr 2; omega, hv1⟩
            refine ⟨fun q => (w.cell? ((ad f b m a 0).add q)).getD undef, .mem (ad f b m a 0) cap' rfl (fun q hq => ?_), ⟨by simp [Src.n], fun v hv => ?_⟩, fun i j x hi hj hx => ?_⟩
            · obtain ⟨v, hv, _⟩ := hsome q hq
              rw [hv]; rfl
            · simp only [List.mem_map, List.mem_range] at hv
              obtain ⟨q, hq, rfl⟩ := hv
              obtain ⟨v, hv, hv1⟩ := hsome q hq
              rw [hv]; exact hv1
            have hlt : i * m + j < len * m := by
              have : (i + 1) * m ≤ len * m := Nat.mul_le_mul_right _ hi
              rw [Nat.add_mul] at this
              omega
            have hat : (H.get b).at m (a + i) j = some (.f x) := by
              rw [hob]
              simp only [Ob.at]
              rw [if_pos ⟨trivial, m2.symm, by omega, by omega⟩, hx]
              rfl
            obtain ⟨_, v, hv, hc⟩ := hok.cell _ _ _ _ hat
            refine ⟨v, ?_, hc⟩
            simp only [Src.n, List.getElem?_map, List.getElem?_range hlt, Option.map_some, Option.some.injEq]
            rw [ad_add]
            have : ad f b m a (0 + (i * m + j)) = ad f b m (a + i) j := by
              simp only [ad, Nat.add_mul]
              congr 2
              omega
            rw [this, hv]
            rfl
        · exact (T.bad_some h).elim
      · exact (T.bad_some h).elim
    · exact (T.bad_some h).elim
  · exact (T.bad_some h).elim

theorem lay_first {sz : Nat} {u : Value} {n : Nat} {g : Nat → Value} {w : World} (h : Lay sz u n g w) (w' : World) (hw : ∀ x, w'.cell? x = w.cell? x) {k : Nat} (hk : k ≤ n) :
    (Builtin.firstCells sz k u).run P w' = .ok ((List.range (k * sz)).map g).toArray w' := by
  cases h with
  | none hu hn =>
    subst hu
    have : k = 0 := by omega
    subst this
    simp [Builtin.firstCells]
  | str b hu hn hs hg =>
    subst hu hn hs
    simp only [Builtin.firstCells, Nat.mul_one, Sem.run_pure]
    congr 1
    apply Array.ext'
    apply List.ext_getElem?
    intro i
    have hlen : b.data.toList.length = b.size := by simp
    simp only [Array.toList_map, List.getElem?_map, ByteArray.data_extract, Array.toList_extract, List.extract_eq_take_drop, List.drop_zero, Nat.sub_zero]
    by_cases hi : i < k
    · rw [List.getElem?_range hi, List.getElem?_take, if_pos hi, List.getElem?_eq_getElem (by rw [hlen]; omega)]
      simp only [Option.map_some, hg, List.getD_eq_getElem?_getD]
      rw [List.getElem?_eq_getElem (by rw [hlen]; omega)]
      rfl
    · rw [List.getElem?_eq_none (by simp; omega), List.getElem?_eq_none (by simpa using hi)]
      rfl
  | mem a cap hu hc =>
    subst hu
    have hle : k * sz ≤ n * sz := Nat.mul_le_mul_right _ hk
    exact loadCells_len (P := P) (w := w') (ad := a) (n := k * sz) (g := g) (fun j hj => by rw [hw]; exact hc j (by omega))

theorem lay_len {sz : Nat} {u : Value} {n : Nat} {g : Nat → Value} {w : World} (h : Lay sz u n g w) (w' : World) : (Builtin.lenOf u).run P w' = .ok n w' := by
  cases h with
  | none hu hn => subst hu hn; rfl
  | str b hu hn hs hg => subst hu hn; rfl
  | mem a cap hu hc => subst hu; rfl

theorem srcOf_ok {S : Nat → Prop} {f : Fn} {nx : Nat} {z : Z} {w : World} {H : Heap} {sz : Nat} {x : CV} {s : Src} {fp : List Nat} {u : Value} (h : (srcOf H sz x).res = some (s, fp)) (hr : Rel S f nx z w H) (hS : ∀ b ∈ fp, S b) (hu : RC f nx z x u) :
    ∃ cs : Array Value, (∀ w' : World, (∀ x, w'.cell? x = w.cell? x) → (Builtin.firstCells sz s.n u).run P w' = .ok cs w' ∧ (Builtin.lenOf u).run P w' = .ok s.n w') ∧ SrcOk f nx z sz s cs.toList := by
  obtain ⟨g, h1, h2⟩ := srcOf_lay h hr hS hu
  exact ⟨((List.range (s.n * sz)).map g).toArray, fun w' hw => ⟨lay_first h1 w' hw (Nat.le_refl _), lay_len h1 w'⟩, by simpa using h2⟩

end src
end Go.Proofs.YtpidkmegakdohaaGreat.Kn
