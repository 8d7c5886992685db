/- Texts put together: E8, E9. -/
import Derived.Test.YtbobakclbdaepaaGreatG04
import Derived.Deep.AppendSrc
import Derived.Lib.AppendZerosOnto
/- The engine, part 8: append, copy, clear and their kin. -/
namespace Go.Proofs.YtbobakclbdaepaaGreat.En
open Go
set_option linter.unusedVariables false
set_option linter.unusedSimpArgs false

theorem Rel.drew {S : Nat → Prop} {f : Fn} {nx : Nat} {z : Z} {w : World} {H : Heap} (h : Rel S f nx z w H) : Rel S f nx z w.drew H :=
  ⟨fun b hb hl => ⟨(h.own b hb hl).1, ⟨(h.own b hb hl).2.lt, (h.own b hb hl).2.own, (h.own b hb hl).2.room, (h.own b hb hl).2.cell, (h.own b hb hl).2.map⟩⟩, h.inj, h.zok⟩

theorem Post.undrew {S : Nat → Prop} {f : Fn} {nx : Nat} {z : Z} {w : World} {H : Heap} {f' : Fn} {nx' : Nat} {z' : Z} {w' : World} {H' : Heap} {esc : Bool} (h : Post S f nx z w.drew H f' nx' z' w' H' esc) : Post S f nx z w H f' nx' z' w' H' esc :=
  ⟨h.hnx, h.ext, h.zle, h.znew, h.same, h.dead, h.rel, h.fresh, ⟨h.fr.size, h.fr.os, h.fr.tape, h.fr.output, h.fr.block⟩, h.noesc⟩

theorem Post.congr {S : Nat → Prop} {f : Fn} {nx : Nat} {z : Z} {w : World} {H : Heap} {f' : Fn} {nx' : Nat} {z' : Z} {w' : World} {H' H'' : Heap} {esc : Bool} (h : Post S f nx z w H f' nx' z' w' H' esc)
    (e : ∀ b, H''.get b = H'.get b) : Post S f nx z w H f' nx' z' w' H'' esc := by
  refine ⟨h.hnx, h.ext, h.zle, h.znew, fun b hb hs => by rw [e]; exact h.same b hb hs, fun b hb hl => h.dead b hb (by rw [← e]; exact hl), ⟨fun b hb hl => ?_, fun b c hb hc hl hl' => h.rel.inj b c hb hc (by rw [← e]; exact hl) (by rw [← e]; exact hl'), h.rel.zok⟩,
    fun b hb hl => h.fresh b hb (by rw [← e]; exact hl), h.fr, fun he m hm hN b l hb hg => h.noesc he m hm hN b l hb (by rw [← e]; exact hg)⟩
  rw [e] at hl ⊢
  exact h.rel.own b hb hl

theorem Post.kill {S : Nat → Prop} {f : Fn} {nx : Nat} {z : Z} {w : World} {H : Heap} {f' : Fn} {nx' : Nat} {z' : Z} {w' : World} {H' : Heap} {esc : Bool} (h : Post S f nx z w H f' nx' z' w' H' esc) (b : Nat) (hS : S b) :
    Post S f nx z w H f' nx' z' w' (H'.put b .dead) esc := by
  have hg : ∀ c, (H'.put b .dead).get c = if b = c then .dead else H'.get c := Heap.get_put H' b .dead
  have hl : ∀ c, ((H'.put b .dead).get c).live → (H'.get c).live ∧ b ≠ c := fun c hc => by
    rw [hg] at hc
    by_cases e : b = c
    · rw [if_pos e] at hc; exact hc.elim
    · rw [if_neg e] at hc; exact ⟨hc, e⟩
  refine ⟨h.hnx, h.ext, h.zle, h.znew, fun c hc hs => ?_, fun c hc hcl => h.dead c hc (hl c hcl).1, ⟨fun c hc hcl => ?_, fun c d hc hd hcl hdl => h.rel.inj c d hc hd (hl c hcl).1 (hl d hdl).1, h.rel.zok⟩, fun c hc hcl => h.fresh c hc (hl c hcl).1, h.fr, fun he m hm hN c l hc hgc => ?_⟩
  · rw [hg, if_neg (fun (e : b = c) => hs (e ▸ hS))]; exact h.same c hc hs
  · have := h.rel.own c hc (hl c hcl).1
    rw [hg, if_neg (hl c hcl).2]
    exact this
  · rw [hg] at hgc
    by_cases e : b = c
    · rw [if_pos e] at hgc; cases hgc
    · rw [if_neg e] at hgc; exact h.noesc he m hm hN c l hc hgc

/-- an own block goes on as a new one, from an offset on -/
theorem Post.move {S : Nat → Prop} {f : Fn} {nx : Nat} {z : Z} {w w' : World} {H : Heap} (hr : Rel S f nx z w H) (hno : ∀ b, nx ≤ b → ¬ (H.get b).live) {b : Nat} (hS : S b) (hl : (H.get b).live) (o : Ob) (hnm : ¬ o.isMap) (off : Nat) (hoff : off ≤ (f b).t)
    (hsize : w'.heap.size = w.heap.size) (hos : w'.os = w.os ∧ w'.tape = w.tape ∧ w'.output = w.output) (hother : ∀ k, k ≠ (f b).k → w'.heap[k]? = w.heap[k]?)
    (hroom : ∀ p, p < (f b).t → (∃ v, w'.cell? ⟨(f b).k, (f b).d + p, none⟩ = some v ∧ v.oneCell' = true) ∧ w'.frozen? ⟨(f b).k, (f b).d + p, none⟩ = false)
    (hat : ∀ m i j x, o.at m i j = some x → off + (i * m + j) < (f b).t ∧ ∃ v, w'.cell? ⟨(f b).k, (f b).d + (off + (i * m + j)), none⟩ = some v ∧ RC f nx z x v) {esc : Bool} :
    Post S f nx z w H (upd f nx ⟨(f b).k, (f b).d + off, (f b).t - off⟩) (nx + 1) z w' ((nx, o) :: H.put b .dead) esc := by
  obtain ⟨hb, hok⟩ := hr.own b hS hl
  have hg : ∀ c, Heap.get ((nx, o) :: H.put b .dead) c = if nx = c then o else if b = c then .dead else H.get c := fun c => by rw [Heap.get_cons, Heap.get_put]
  have hold : ∀ c, (S c ∨ nx ≤ c) → (Heap.get ((nx, o) :: H.put b .dead) c).live → c = nx ∨ (c < nx ∧ S c ∧ (H.get c).live ∧ b ≠ c) := by
    intro c hc hcl
    by_cases e : nx = c
    · exact .inl e.symm
    · rw [hg, if_neg e] at hcl
      by_cases e2 : b = c
      · rw [if_pos e2] at hcl; exact hcl.elim
      · rw [if_neg e2] at hcl
        have : ¬ nx ≤ c := fun h => hno c h hcl
        exact .inr ⟨by omega, hc.resolve_right this, hcl, e2⟩
  have hk : ∀ c, S c → (H.get c).live → b ≠ c → (f c).k ≠ (f b).k := fun c hc hcl hne => hr.inj c b hc hS hcl hl (Ne.symm hne)
  have hc? : ∀ k p, k ≠ (f b).k → w'.cell? ⟨k, p, none⟩ = w.cell? ⟨k, p, none⟩ := fun k p hk => World.cell?_of_block (w := w) (hother k hk)
  have hf? : ∀ k p, k ≠ (f b).k → w'.frozen? ⟨k, p, none⟩ = w.frozen? ⟨k, p, none⟩ := fun k p hk => World.frozen?_of_block (w := w) (hother k hk)
  refine ⟨by omega, upd_ext _ _ _, fun _ _ _ h => h, fun _ _ _ h => .inl h, fun c hc hs => ?_, fun c hc hcl => ?_, ⟨fun c hc hcl => ?_, fun c d hc hd hcl hdl hne => ?_, fun k p v hv => ?_⟩, fun c hc hcl => ?_, ⟨by rw [hsize]; exact Nat.le_refl _, hos.1, hos.2.1, hos.2.2, fun k _ hk => hother k fun e => hk ⟨b, hS, hl, e.symm⟩⟩, fun _ m hm hN c l hc hgc x hx => ?_⟩
  · left; rw [hg, if_neg (by omega), if_neg (fun (e : b = c) => hs (e ▸ hS))]
  · rw [hg, if_neg (by omega)] at hcl
    by_cases e2 : b = c
    · rw [if_pos e2] at hcl; exact hcl.elim
    · rw [if_neg e2] at hcl; exact hcl
  · rcases hold c hc hcl with rfl | ⟨hlt, hs, hl0, hne⟩
    · rw [hg, if_pos rfl]
      refine ⟨by omega, ⟨by rw [upd_same, hsize]; exact hok.lt, fun p => by rw [upd_same]; exact hok.own p, fun p hp => ?_, fun m i j x hx => ?_, fun es he => absurd (by rw [he]; trivial) hnm⟩⟩
      · rw [upd_same] at hp ⊢
        simp only at hp ⊢
        have := hroom (off + p) (by omega)
        rw [← Nat.add_assoc] at this
        exact this
      · obtain ⟨h1, v, hv, hc⟩ := hat m i j x hx
        refine ⟨by rw [upd_same]; simp only; omega, v, ?_, RC.mono (upd_ext _ _ _) (by omega) (fun _ _ _ h => h) hc⟩
        simp only [ad, upd_same]
        rw [Nat.add_assoc]
        exact hv
    · rw [hg, if_neg (by omega), if_neg hne]
      obtain ⟨_, h0⟩ := hr.own c hs hl0
      have hkc := hk c hs hl0 hne
      have e := upd_ext f nx ⟨(f b).k, (f b).d + off, (f b).t - off⟩ c hlt
      refine ⟨by omega, ⟨by rw [e, hsize]; exact h0.lt, fun p => by rw [e]; exact h0.own p, fun p hp => ?_, fun m i j x hx => ?_, fun es he => by rw [e, hother _ hkc]; exact h0.map es he⟩⟩
      · rw [e] at hp ⊢
        rw [hc? _ _ hkc, hf? _ _ hkc]; exact h0.room p hp
      · obtain ⟨h1, v, h2, h3⟩ := h0.cell m i j x hx
        refine ⟨by rw [e]; exact h1, v, ?_, RC.mono (upd_ext _ _ _) (by omega) (fun _ _ _ h => h) h3⟩
        simp only [ad, e]
        rw [hc? _ _ hkc]; exact h2
  · rcases hold c hc hcl with rfl | ⟨hlt, hs, hl0, hne1⟩
    · rcases hold d hd hdl with rfl | ⟨hlt', hs', hl0', hne2⟩
      · exact absurd rfl hne
      · rw [upd_same, upd_ext _ _ _ _ hlt']
        exact (hk d hs' hl0' hne2).symm
    · rcases hold d hd hdl with rfl | ⟨hlt', hs', hl0', hne2⟩
      · rw [upd_same, upd_ext _ _ _ _ hlt]
        exact hk c hs hl0 hne1
      · rw [upd_ext _ _ _ _ hlt, upd_ext _ _ _ _ hlt']
        exact hr.inj c d hs hs' hl0 hl0' hne
  · have hk : k ≠ (f b).k := fun e => by rw [e, hok.own] at hv; cases hv
    rw [hc? _ _ hk]; exact hr.zok k p v hv
  · rcases hold c (.inr hc) hcl with rfl | ⟨hlt, _⟩
    · right; rw [upd_same]; exact ⟨b, hS, hl, rfl⟩
    · omega
  · rw [hg, if_neg (by omega)] at hgc
    by_cases e2 : b = c
    · rw [if_pos e2] at hgc; cases hgc
    · rw [if_neg e2] at hgc; exact hN c l hc hgc x hx

theorem selL_chunks {sz : Nat} : ∀ (n : Nat) (r : List FV) (j : Nat), j < n → selL (chunks sz n r) j = chop sz r j
  | 0, _, _, h => by omega
  | 1, r, j, h => by
    have : j = 0 := by omega
    subst this
    simp [chunks, selL, chop]
  | n + 2, r, j, h => by
    have e : selL (chunks sz (n + 2) r) j = iteL (Nat.beq j 0) (r.take sz) (selL (chunks sz (n + 1) (r.drop sz)) (j - 1)) := rfl
    rw [e, iteL_eq]
    cases j with
    | zero => simp [chop]
    | succ j =>
      simp only [Nat.add_sub_cancel]
      rw [selL_chunks (n + 1) (r.drop sz) j (by omega)]
      have : Nat.beq (j + 1) 0 = false := rfl
      rw [this]
      simp only [chop, List.drop_drop, Nat.add_mul, Nat.one_mul, Nat.add_comm]

/-- what a source stands for -/
def SrcOk (f : Fn) (nx : Nat) (z : Z) (sz : Nat) : Src → List Value → Prop
  | .flat n l, vs => (vs.length = n * sz ∧ ∀ v ∈ vs, v.oneCell' = true) ∧ RL f nx z l vs
  | .fn n e, vs => (vs.length = n * sz ∧ ∀ v ∈ vs, v.oneCell' = true) ∧ ∀ i j x, i < n → j < sz → (e i)[j]? = some x → ∃ v, vs[i * sz + j]? = some v ∧ RF z x v

theorem SrcOk.len {f : Fn} {nx : Nat} {z : Z} {sz : Nat} {s : Src} {vs : List Value} (h : SrcOk f nx z sz s vs) : vs.length = s.n * sz := by
  cases s <;> exact h.1.1

theorem SrcOk.all {f : Fn} {nx : Nat} {z : Z} {sz : Nat} {s : Src} {vs : List Value} (h : SrcOk f nx z sz s vs) : ∀ v ∈ vs, v.oneCell' = true := by
  cases s <;> exact h.1.2

theorem SrcOk.fn? {f : Fn} {nx : Nat} {z : Z} {sz : Nat} {s : Src} {vs : List Value} (h : SrcOk f nx z sz s vs) {n : Nat} {e : Nat → List FV} (hs : s.fn? sz = some (n, e)) : SrcOk f nx z sz (.fn n e) vs ∧ n = s.n := by
  cases s with
  | fn m g =>
    simp only [Src.fn?, Option.some.injEq, Prod.mk.injEq] at hs
    obtain ⟨rfl, rfl⟩ := hs
    exact ⟨h, rfl⟩
  | flat m l =>
    simp only [Src.fn?] at hs
    split at hs
    · rename_i r hr
      simp only [Option.some.injEq, Prod.mk.injEq] at hs
      obtain ⟨rfl, rfl⟩ := hs
      have hl := fvs?_eq _ _ hr
      subst hl
      refine ⟨⟨h.1, fun i j x hi hj hx => ?_⟩, rfl⟩
      rw [selL_chunks m r i hi] at hx
      simp only [chop, List.getElem?_take] at hx
      rw [if_pos hj, List.getElem?_drop] at hx
      have hlt : i * sz + j < vs.length := by
        rw [← h.2.1]
        have := (List.getElem?_eq_some_iff.1 hx).1
        simpa using this
      refine ⟨vs[i * sz + j], List.getElem?_eq_getElem hlt, ?_⟩
      exact h.2.2 (i * sz + j) (.f x) _ (by simp [hx]) (List.getElem?_eq_getElem hlt)
    · cases hs

theorem Src.app_ok {f : Fn} {nx : Nat} {z : Z} {sz : Nat} {a b c : Src} {u v : List Value} (ha : SrcOk f nx z sz a u) (hb : SrcOk f nx z sz b v) (h : a.app sz b = some c) : SrcOk f nx z sz c (u ++ v) ∧ c.n = a.n + b.n := by
  have fns : ∀ n e k g, a.fn? sz = some (n, e) → b.fn? sz = some (k, g) → c = .fn (n + k) (fun i => iteL (Nat.ble (i + 1) n) (e i) (g (i - n))) → SrcOk f nx z sz c (u ++ v) ∧ c.n = a.n + b.n := by
    rintro n e k g h1 h2 rfl
    obtain ⟨a1, a2⟩ := ha.fn? h1
    obtain ⟨b1, b2⟩ := hb.fn? h2
    refine ⟨⟨⟨by rw [List.length_append, a1.1.1, b1.1.1, Nat.add_mul], fun y hy => (List.mem_append.1 hy).elim (a1.1.2 y) (b1.1.2 y)⟩, fun i j x hi hj hx => ?_⟩, by rw [Src.n, a2, b2]⟩
    dsimp only at hx
    rw [iteL_eq] at hx
    by_cases hin : i < n
    · rw [show Nat.ble (i + 1) n = true from Nat.ble_eq_true_of_le hin] at hx
      obtain ⟨q, q1, q2⟩ := a1.2 i j x hin hj hx
      refine ⟨q, ?_, q2⟩
      rw [List.getElem?_append_left (List.getElem?_eq_some_iff.1 q1).1]
      exact q1
    · have : Nat.ble (i + 1) n = false := by
        cases hq : Nat.ble (i + 1) n with
        | false => rfl
        | true => have := nble hq; omega
      rw [this] at hx
      obtain ⟨q, q1, q2⟩ := b1.2 (i - n) j x (by omega) hj hx
      refine ⟨q, ?_, q2⟩
      have e : i * sz + j = n * sz + ((i - n) * sz + j) := by
        rw [← Nat.add_assoc, ← Nat.add_mul]
        congr 2
        omega
      rw [e, List.getElem?_append_right (by rw [a1.1.1]; omega), a1.1.1, Nat.add_sub_cancel_left]
      exact q1
  unfold Src.app at h
  split at h
  · rename_i n l k r
    simp only [Option.some.injEq] at h
    subst h
    exact ⟨⟨⟨by rw [List.length_append, ha.1.1, hb.1.1, Nat.add_mul], fun y hy => (List.mem_append.1 hy).elim (ha.1.2 y) (hb.1.2 y)⟩, ha.2.append hb.2⟩, rfl⟩
  · split at h
    · rename_i n e k g h1 h2
      simp only [Option.some.injEq] at h
      exact fns n e k g h1 h2 h.symm
    · cases h

def Src.ob (sz : Nat) : Src → Ob
  | .flat _ l => .cells l
  | .fn n e => .arr true sz n e

theorem SrcOk.at {f : Fn} {nx : Nat} {z : Z} {sz : Nat} {s : Src} {vs : List Value} (h : SrcOk f nx z sz s vs) (m i j : Nat) (x : CV) (hx : (s.ob sz).at m i j = some x) : ∃ v, vs[i * m + j]? = some v ∧ RC f nx z x v := by
  cases s with
  | flat n l =>
    simp only [Src.ob, Ob.at] at hx
    split at hx
    · rename_i hz
      obtain ⟨rfl, rfl⟩ := hz
      have hlt : j < vs.length := by rw [← h.2.1]; exact (List.getElem?_eq_some_iff.1 hx).1
      refine ⟨vs[j], by simp [hlt], h.2.2 j x _ hx (List.getElem?_eq_getElem hlt)⟩
    · cases hx
  | fn n e =>
    simp only [Src.ob, Ob.at] at hx
    split at hx
    · rename_i hz
      obtain ⟨_, rfl, hi, hj⟩ := hz
      cases hq : (e i)[j]? with
      | none => rw [hq] at hx; cases hx
      | some y =>
        rw [hq] at hx
        simp only [Option.map_some, Option.some.injEq] at hx
        subst hx
        exact h.2 i j y hi hj hq
    · cases hx

theorem Src.ob_noMap (s : Src) (sz : Nat) : ¬ (s.ob sz).isMap := by cases s <;> exact id

theorem growBy_le (n : Nat) : ∀ (r c B : Nat), n + (n + 768) / 4 ≤ B → c ≤ B → Builtin.growBy n r c ≤ B
  | 0, c, B, _, h => h
  | r + 1, c, B, hB, h => by
    simp only [Builtin.growBy]
    split
    · exact h
    · exact growBy_le n r _ B hB (by omega)

theorem nextslicecap_le {n c : Nat} (h : c < n) : Builtin.nextslicecap n c ≤ 2 * n + 512 := by
  unfold Builtin.nextslicecap
  split
  · omega
  · split
    · omega
    · exact growBy_le n 4 c _ (by omega) (by omega)

section src
variable {P : Program}

theorem loadCells_len {w : World} {ad : Addr} {n : Nat} {g : Nat → Value} (h : ∀ j, j < n → w.cell? (ad.add j) = some (g j)) : (loadCells ad n).run P w = .ok ((List.range n).map g).toArray w := run_loadCells w ad n g h

/-- where a source's cells lie -/
inductive Lay (sz : Nat) (u : Value) (n : Nat) (g : Nat → Value) (w : World) : Prop
  | none (hu : u = .slice none 0 0) (hn : n = 0)
  | str (b : ByteArray) (hu : u = .string b) (hn : n = b.size) (hs : sz = 1) (hg : ∀ j, g j = .int .u8 (b.data.toList.getD j 0).toNat)
  | mem (a : Addr) (cap : Nat) (hu : u = .slice (some a) n cap) (hc : ∀ j, j < n * sz → w.cell? (a.add j) = some (g j))

/-- a source's cells, as the model loads them -/
theorem srcOf_lay {S : Nat → Prop} {f : Fn} {nx : Nat} {z : Z} {w : World} {H : Heap} {sz : Nat} {x : CV} {s : Src} {fp : List Nat} {u : Value} (h : (srcOf H sz x).res = some (s, fp)) (hr : Rel S f nx z w H) (hS : ∀ b ∈ fp, S b) (hu : RC f nx z x u) :
    ∃ g : Nat → Value, Lay sz u s.n g w ∧ SrcOk f nx z sz s ((List.range (s.n * sz)).map g) := by
  unfold srcOf at h
  split at h
  · have h := T.ret_some h
    simp only [Prod.mk.injEq] at h
    obtain ⟨rfl, rfl⟩ := h
    cases hu
    exact ⟨fun _ => undef, .none rfl rfl, by simpa [Src.n] using ⟨⟨by simp, by simp⟩, RL.nil⟩⟩
  · have h := T.ret_some h
    simp only [Prod.mk.injEq] at h
    obtain ⟨rfl, rfl⟩ := h
    cases hu with
    | z0n => exact ⟨fun _ => undef, .none rfl rfl, by simpa [Src.n] using ⟨⟨by simp, by simp⟩, RL.nil⟩⟩
    | z0s a => exact ⟨fun _ => undef, .mem a 0 rfl (fun j hj => by simp [Src.n] at hj), by simpa [Src.n] using ⟨⟨by simp, by simp⟩, RL.nil⟩⟩
  · rename_i b
    split at h
    · rename_i h1
      have h1 := nbeq h1
      subst h1
      have h := T.ret_some h
      simp only [Prod.mk.injEq] at h
      obtain ⟨rfl, rfl⟩ := h
      cases hu
      have hlen : b.data.toList.length = b.size := by simp
      have hmap : (List.range (b.size * 1)).map (fun j => Value.int .u8 (b.data.toList.getD j 0).toNat) = b.data.toList.map fun c => Value.int .u8 c.toNat := by
        apply List.ext_getElem?
        intro i
        simp only [List.getElem?_map, Nat.mul_one]
        by_cases hi : i < b.size
        · rw [List.getElem?_range hi, List.getElem?_eq_getElem (by rw [hlen]; exact hi)]
          simp only [Option.map_some, List.getD_eq_getElem?_getD]
          rw [List.getElem?_eq_getElem (by rw [hlen]; exact hi)]
          rfl
        · rw [List.getElem?_eq_none (by simpa using hi), List.getElem?_eq_none (by rw [hlen]; omega)]
          rfl
      refine ⟨fun j => .int .u8 (b.data.toList.getD j 0).toNat, .str b rfl rfl rfl (fun _ => rfl), ?_⟩
      simp only [Src.n]
      rw [hmap]
      refine ⟨⟨by simp, fun v hv => ?_⟩, ⟨by simp, fun i x v hx hv => ?_⟩⟩
      · simp only [List.mem_map] at hv
        obtain ⟨_, _, rfl⟩ := hv
        rfl
      · simp only [List.getElem?_map] at hx hv
        cases hq : b.data.toList[i]? with
        | none => rw [hq] at hx; cases hx
        | some c =>
          rw [hq] at hx hv
          simp only [Option.map_some, Option.some.injEq] at hx hv
          subst hx
          subst hv
          exact RF.lit _ rfl
    · exact (T.bad_some h).elim
  · rename_i nil sz' n e
    split at h
    · rename_i hsz
      have hsz := nbeq hsz
      subst hsz
      have h := T.ret_some h
      simp only [Prod.mk.injEq] at h
      obtain ⟨rfl, rfl⟩ := h
      cases hu with
      | fsn => exact ⟨fun _ => undef, .none rfl rfl, ⟨by simp [Src.n], by simp [Src.n]⟩, fun i j x hi => by omega⟩
      | fs0 _ _ a cap => exact ⟨fun _ => undef, .mem a cap rfl (fun j hj => by simp [Src.n] at hj), ⟨by simp [Src.n], by simp [Src.n]⟩, fun i j x hi => by omega⟩
      | fss _ _ _ k o cap g hc h1 h2 h3 =>
        have hdiv : ∀ q, q < n * sz' → q / sz' < n ∧ q % sz' < sz' ∧ q / sz' * sz' + q % sz' = q := by
          intro q hq
          have hpos : 0 < sz' := Nat.pos_of_ne_zero fun e => by simp [e] at hq
          refine ⟨(Nat.div_lt_iff_lt_mul hpos).2 hq, Nat.mod_lt _ hpos, ?_⟩
          have := Nat.div_add_mod q sz'
          rw [Nat.mul_comm]; exact this
        refine ⟨fun q => g (q / sz') (q % sz'), .mem ⟨k, o, none⟩ cap rfl (fun q hq => ?_), ⟨by simp [Src.n], fun v hv => ?_⟩, fun i j x hi hj hx => ?_⟩
        · obtain ⟨a1, a2, a3⟩ := hdiv q hq
          have := hr.zok _ _ _ (h1 _ _ a1 a2)
          rw [a3] at this
          rw [show (⟨k, o, none⟩ : Addr).add q = ⟨k, o + q, none⟩ by unfold Addr.add; split <;> simp_all]
          exact this
        · simp only [List.mem_map, List.mem_range] at hv
          obtain ⟨q, hq, rfl⟩ := hv
          obtain ⟨a1, a2, _⟩ := hdiv q hq
          exact h3 _ _ a1 a2
        have hlt : i * sz' + j < n * sz' := by
          have : (i + 1) * sz' ≤ n * sz' := Nat.mul_le_mul_right _ hi
          rw [Nat.add_mul] at this
          omega
        refine ⟨g i j, ?_, h2 i j x hi hj hx⟩
        have hpos : 0 < sz' := by omega
        simp only [Src.n, List.getElem?_map, List.getElem?_range hlt, Option.map_some, Option.some.injEq]
        rw [Nat.mul_comm i, Nat.mul_add_div hpos, Nat.div_eq_of_lt hj, Nat.mul_add_mod, Nat.mod_eq_of_lt hj]
        rfl
    · exact (T.bad_some h).elim
  · rename_i nil b m a j len cap ex sz'
    split at h
    · rename_i hsz
      have hsz := nbeq hsz
      subst hsz
      obtain ⟨hb, hX0, hX1⟩ := hu
      split at h
      · rename_i l hob
        split at h
        · rename_i hm
          rw [Bool.and_eq_true] at hm
          have m1 := nbeq hm.1
          have m2 := nbeq hm.2
          subst m1 m2
          obtain ⟨hnil, h⟩ := T.need_some h
          have hnil : nil = false := by simpa using hnil
          subst hnil
          dsimp only at h
          split at h
          · rename_i hlen
            have hlen := nbeq hlen
            have h := T.ret_some h
            simp only [Prod.mk.injEq] at h
            obtain ⟨rfl, rfl⟩ := h
            obtain ⟨cap', rfl, c1, c2, c3, c4⟩ := hX1 rfl
            have hl : (H.get b).live := by rw [hob]; trivial
            obtain ⟨_, hok⟩ := hr.own b (hS b (by simp)) hl
            have hrd : ((H.get b).rd 0 0 j (len * sz')).res = some ((l.drop j).take (len * sz')) := by
              rw [hob]
              simp only [Ob.rd]
              rw [show (Nat.beq 0 0 && Nat.beq 0 0) = true from rfl]
              simp only
              rw [hlen, Nat.beq_refl]
              rfl
            obtain ⟨vs, r1, r2, r3⟩ := hok.read hrd
            have hvs : (List.range (len * sz')).map (fun q => vs.getD q undef) = vs := by
              apply List.ext_getElem?
              intro q
              simp only [List.getElem?_map]
              by_cases hq : q < len * sz'
              · rw [List.getElem?_range hq, List.getElem?_eq_getElem (by rw [r2]; exact hq)]
                simp only [Option.map_some, List.getD_eq_getElem?_getD]
                rw [List.getElem?_eq_getElem (by rw [r2]; exact hq)]
                rfl
              · rw [List.getElem?_eq_none (by simpa using hq), List.getElem?_eq_none (by rw [r2]; omega)]
                rfl
            refine ⟨fun q => vs.getD q undef, .mem (ad f b 0 0 j) cap' rfl (fun q hq => ?_), ?_⟩
            · refine r3 q _ ?_
              simp only [List.getD_eq_getElem?_getD]
              rw [List.getElem?_eq_getElem (by rw [r2]; exact hq)]
              rfl
            · simp only [Src.n]
              rw [hvs]
              exact ⟨⟨r2, r1.all⟩, r1⟩
          · exact (T.bad_some h).elim
        · exact (T.bad_some h).elim
      · rename_i live zz N e hob
        split at h
        · rename_i hm
          simp only [Bool.and_eq_true] at hm
          obtain ⟨⟨m1, m2⟩, m3⟩ := hm
          have m1 := nbeq m1
          have m2 := nbeq m2
          have m3 := nbeq m3
          subst m1 m3
          obtain ⟨hn, h⟩ := T.need_some h
          rw [Bool.and_eq_true] at hn
          have hN := nble hn.2
          have h := T.ret_some h
          simp only [Prod.mk.injEq] at h
          obtain ⟨rfl, rfl⟩ := h
          cases nil with
          | true =>
            obtain ⟨rfl, _, rfl⟩ := hX0 rfl
            exact ⟨fun _ => undef, .none rfl rfl, ⟨by simp [Src.n], by simp [Src.n]⟩, fun i j x hi => by omega⟩
          | false =>
            have hlive : live = true := by simpa using hn.1
            subst hlive
            obtain ⟨cap', rfl, c1, c2, c3, c4⟩ := hX1 rfl
            have hl : (H.get b).live := by rw [hob]; rfl
            obtain ⟨_, hok⟩ := hr.own b (hS b (by simp)) hl
            have hsome : ∀ q, q < len * m → ∃ v, w.cell? ((ad f b m a 0).add q) = some v ∧ v.oneCell' = true := fun q hq => by
              have : len * m ≤ cap' * m := Nat.mul_le_mul_right _ c1
              obtain ⟨v, hv, hv1⟩ := (hok.room (a * m + 0 + q) (by omega)).1
              rw [ad_add]
              exact ⟨v, by simp only [ad]; rw [← hv]; congr 2; omega, hv1⟩
            refine ⟨fun q => (w.cell? ((ad f b m a 0).add q)).getD undef, .mem (ad f b m a 0) cap' rfl (fun q hq => ?_), ⟨by simp [Src.n], fun v hv => ?_⟩, fun i j x hi hj hx => ?_⟩
            · obtain ⟨v, hv, _⟩ := hsome q hq
              rw [hv]; rfl
            · simp only [List.mem_map, List.mem_range] at hv
              obtain ⟨q, hq, rfl⟩ := hv
              obtain ⟨v, hv, hv1⟩ := hsome q hq
              rw [hv]; exact hv1
            have hlt : i * m + j < len * m := by
              have : (i + 1) * m ≤ len * m := Nat.mul_le_mul_right _ hi
              rw [Nat.add_mul] at this
              omega
            have hat : (H.get b).at m (a + i) j = some (.f x) := by
              rw [hob]
              simp only [Ob.at]
              rw [if_pos ⟨trivial, m2.symm, by omega, by omega⟩, hx]
              rfl
            obtain ⟨_, v, hv, hc⟩ := hok.cell _ _ _ _ hat
            refine ⟨v, ?_, hc⟩
            simp only [Src.n, List.getElem?_map, List.getElem?_range hlt, Option.map_some, Option.some.injEq]
            rw [ad_add]
            have : ad f b m a (0 + (i * m + j)) = ad f b m (a + i) j := by
              simp only [ad, Nat.add_mul]
              congr 2
              omega
            rw [this, hv]
            rfl
        · exact (T.bad_some h).elim
      · exact (T.bad_some h).elim
    · exact (T.bad_some h).elim
  · exact (T.bad_some h).elim

theorem lay_first {sz : Nat} {u : Value} {n : Nat} {g : Nat → Value} {w : World} (h : Lay sz u n g w) (w' : World) (hw : ∀ x, w'.cell? x = w.cell? x) {k : Nat} (hk : k ≤ n) :
    (Builtin.firstCells sz k u).run P w' = .ok ((List.range (k * sz)).map g).toArray w' := by
  cases h with
  | none hu hn =>
    subst hu
    have : k = 0 := by omega
    subst this
    simp [Builtin.firstCells]
  | str b hu hn hs hg =>
    subst hu hn hs
    simp only [Builtin.firstCells, Nat.mul_one, Sem.run_pure]
    congr 1
    apply Array.ext'
    apply List.ext_getElem?
    intro i
    have hlen : b.data.toList.length = b.size := by simp
    simp only [Array.toList_map, List.getElem?_map, ByteArray.data_extract, Array.toList_extract, List.extract_eq_take_drop, List.drop_zero, Nat.sub_zero]
    by_cases hi : i < k
    · rw [List.getElem?_range hi, List.getElem?_take, if_pos hi, List.getElem?_eq_getElem (by rw [hlen]; omega)]
      simp only [Option.map_some, hg, List.getD_eq_getElem?_getD]
      rw [List.getElem?_eq_getElem (by rw [hlen]; omega)]
      rfl
    · rw [List.getElem?_eq_none (by simp; omega), List.getElem?_eq_none (by simpa using hi)]
      rfl
  | mem a cap hu hc =>
    subst hu
    have hle : k * sz ≤ n * sz := Nat.mul_le_mul_right _ hk
    exact loadCells_len (P := P) (w := w') (ad := a) (n := k * sz) (g := g) (fun j hj => by rw [hw]; exact hc j (by omega))

theorem lay_len {sz : Nat} {u : Value} {n : Nat} {g : Nat → Value} {w : World} (h : Lay sz u n g w) (w' : World) : (Builtin.lenOf u).run P w' = .ok n w' := by
  cases h with
  | none hu hn => subst hu hn; rfl
  | str b hu hn hs hg => subst hu hn; rfl
  | mem a cap hu hc => subst hu; rfl

theorem srcOf_ok {S : Nat → Prop} {f : Fn} {nx : Nat} {z : Z} {w : World} {H : Heap} {sz : Nat} {x : CV} {s : Src} {fp : List Nat} {u : Value} (h : (srcOf H sz x).res = some (s, fp)) (hr : Rel S f nx z w H) (hS : ∀ b ∈ fp, S b) (hu : RC f nx z x u) :
    ∃ cs : Array Value, (∀ w' : World, (∀ x, w'.cell? x = w.cell? x) → (Builtin.firstCells sz s.n u).run P w' = .ok cs w' ∧ (Builtin.lenOf u).run P w' = .ok s.n w') ∧ SrcOk f nx z sz s cs.toList := by
  obtain ⟨g, h1, h2⟩ := srcOf_lay h hr hS hu
  exact ⟨((List.range (s.n * sz)).map g).toArray, fun w' hw => ⟨lay_first h1 w' hw (Nat.le_refl _), lay_len h1 w'⟩, by simpa using h2⟩

end src
end Go.Proofs.YtbobakclbdaepaaGreat.En
/- The engine, part 9: the builtins. -/
namespace Go.Proofs.YtbobakclbdaepaaGreat.En
open Go
set_option linter.unusedVariables false
set_option linter.unusedSimpArgs false

theorem avs_args {f : Fn} {z : Z} {st : St} {a : Act} (ht : TR f st.nx z st.sl a.tmps) (c : Call) : ∀ (i : Nat) x, (c.args.toList.map st.val)[i]? = some x → ∃ v, (c.args.map a.eval)[i]? = some v ∧ RS f st.nx z x v := by
  intro i x hx
  simp only [List.getElem?_map] at hx
  cases hq : c.args.toList[i]? with
  | none => rw [hq] at hx; cases hx
  | some q =>
    rw [hq] at hx
    simp only [Option.map_some, Option.some.injEq] at hx
    subst hx
    refine ⟨a.eval q, ?_, val_ok ht q⟩
    have : c.args[i]? = some q := by simpa using hq
    simp [this]

theorem run_builtin {P : Program} {o : Oper} {c : Call} {b : Builtin} {a : Act} {w : World} (ho : o.op = .call c) (hc : c.callee = .builtin b) :
    ∃ k, (execOp a.eval o).run P w = (builtin b c.argTypes o.type k (c.args.map a.eval)).run P w := by
  refine ⟨c.args.map fun x => match x with | .const _ => true | _ => false, ?_⟩
  simp only [execOp, ho, resolve, hc, invoke, Sem.run_bind, Sem.run_pure, Result.andThen_ok]
  rfl

section ops
variable {P : Program} {G : Ctx} (hG : CtxOk P G) {call : CallF} {draw : Bool} {st : St} {o : Oper} {u : Out}

theorem Rel.wider {S S' : Nat → Prop} {f : Fn} {nx : Nat} {z : Z} {w : World} {H : Heap} (h : Rel S f nx z w H) (hs : ∀ b, S' b → S b) : Rel S' f nx z w H := h.less hs

/-- what is appended, as the model's builtin takes it -/
inductive Arg (P : Program) (ei : TI) (t1 : Nat) (v : Value) (n : Nat) (cs : List Value) (w : World) : Prop
  | zeros (kn kq : IntKind) (ht : P.underlying t1 = some (.int kn)) (hv : v = .int kq (n : Int)) (h48 : n * ei.bytes ≤ 281474976710656) (hcs : cs = (Builtin.zeroCells ei.zero.toArray n).toList)
  | cells (ht : (∃ e', P.underlying t1 = some (.slice e')) ∨ P.underlying t1 = some .string)
      (hrun : ∀ w' : World, (∀ x, w'.cell? x = w.cell? x) → (Builtin.firstCells ei.size n v).run P w' = .ok cs.toArray w' ∧ (Builtin.lenOf v).run P w' = .ok n w')

theorem Src.n_len {f : Fn} {nx : Nat} {z : Z} {sz : Nat} {s : Src} {vs : List Value} (h : SrcOk f nx z sz s vs) : vs.length = s.n * sz := h.len

theorem lenOf_any {P : Program} {v : Value} {n : Nat} {w : World} (h : (Builtin.lenOf v).run P w = .ok n w) (w' : World) : (Builtin.lenOf v).run P w' = .ok n w' := by
  cases v <;> simp [Builtin.lenOf] at h ⊢ <;> exact h

theorem Arg.src {ei : TI} {t1 : Nat} {v : Value} {n : Nat} {cs : List Value} {w : World} {i : TypeInfo} (hi : i.size = ei.size) (ht : (∃ e', P.underlying t1 = some (.slice e')) ∨ P.underlying t1 = some .string)
    (hrun : ∀ w' : World, (∀ x, w'.cell? x = w.cell? x) → (Builtin.firstCells ei.size n v).run P w' = .ok cs.toArray w' ∧ (Builtin.lenOf v).run P w' = .ok n w') (hlen : cs.length = n * ei.size) (hone : ∀ u ∈ cs, u.oneCell' = true) : Go.Src P i.size t1 v n cs w :=
  ⟨ht, fun w' => lenOf_any (hrun w fun _ => rfl).2 w', by rw [hi]; exact (hrun w fun _ => rfl).1, by rw [hi]; exact (hrun w.drew fun _ => rfl).1, by rw [hi]; exact hlen, hone⟩

theorem TIOk.exact {t : Nat} {i : TI} (h : TIOk P t i) : ∃ x zv, P.info? t = some x ∧ x.size = i.size ∧ x.bytes = i.bytes ∧ x.zero = some zv ∧ zv.cells = i.zero.toArray := by
  obtain ⟨x, zv, h1, h2, h3, h4, h5⟩ := h.info
  exact ⟨x, zv, h1, h2, h3, h4, by rw [← h5]⟩

theorem zeros_room {t tn ty e : Nat} {i : TypeInfo} {zv : Value} {kq kn : IntKind} (w : World) (ht : P.underlying t = some (.slice e)) (htn : P.underlying tn = some (.int kn)) (hi : P.info? e = some i) (hz : i.zero = some zv)
    (b off sLen sCap k : Nat) (h48 : k * i.bytes ≤ 281474976710656) (h63 : (k : Int) ≤ 9223372036854775807) (hsz : i.size ≠ 0) (hzl : zv.cells.size = i.size) (hone : ∀ u ∈ (Builtin.zeroCells zv.cells k).toList, u.oneCell' = true) (hroom : sLen + k ≤ sCap)
    (hc : ∀ j, j < k * i.size → (w.cell? ⟨b, off + sLen * i.size + j, none⟩).isSome = true) (hf : ∀ j, j < k * i.size → w.frozen? ⟨b, off + sLen * i.size + j, none⟩ = false) :
    (Builtin.append_ #[t, tn] ty #[.slice (some ⟨b, off, none⟩) sLen sCap, .int kq k]).run P w = .ok (.slice (some ⟨b, off, none⟩) (sLen + k) sCap) (w.setCells b (off + sLen * i.size) (Builtin.zeroCells zv.cells k).toList) := by
  have hw : IntKind.i64.wrap (k : Int) = k := by rw [IntKind.wrap_i64]; omega
  have h48i : ¬ (281474976710656 < (k : Int) * (i.bytes : Int)) := by
    rw [← Int.natCast_mul]
    omega
  have hneg : ¬ ((k : Int) < 0) := by omega
  have hl : (Builtin.zeroCells zv.cells k).toList.length = k * i.size := by simp [Builtin.zeroCells, hzl]
  have hst := run_storeCells_cells (P := P) b (off + sLen * i.size) (Builtin.zeroCells zv.cells k).toList 0 w (by rw [hl]; simpa using hc) (by rw [hl]; simpa using hf) hone
  simp only [Nat.add_zero] at hst
  by_cases hk : k = 0
  · subst hk
    have e0 : (Builtin.zeroCells zv.cells 0).toList = [] := by simp [Builtin.zeroCells]
    rw [e0] at hst ⊢
    have hroom' : sLen ≤ sCap := by omega
    have hw0 : IntKind.i64.wrap 0 = 0 := by rw [IntKind.wrap_i64]; omega
    simp [Builtin.append_, run_underlying ht, run_underlying htn, sizeOf, typeInfo, zeroValue, hi, hz, asInt, asIntOf, hw0, Addr.add_lit, storeCells, World.setCells, hroom']
  · have hns : ¬ (k * i.size = 0) := Nat.mul_ne_zero hk hsz
    simp [Builtin.append_, run_underlying ht, run_underlying htn, sizeOf, typeInfo, zeroValue, hi, hz, asInt, asIntOf, hw, hneg, hns, h48i, hroom, Addr.add_lit, hst]

theorem zeros_none {t tn ty e : Nat} {i : TypeInfo} {kq kn : IntKind} (w : World) (ht : P.underlying t = some (.slice e)) (htn : P.underlying tn = some (.int kn)) (hi : P.info? e = some i) (base : Option Addr) :
    (Builtin.append_ #[t, tn] ty #[.slice base 0 0, .int kq ((0 : Nat) : Int)]).run P w = .ok (.slice base 0 0) w := by
  have hw : IntKind.i64.wrap 0 = 0 := by rw [IntKind.wrap_i64]; omega
  cases base <;> simp [Builtin.append_, run_underlying ht, run_underlying htn, sizeOf, typeInfo, hi, asInt, asIntOf, hw, storeCells]

theorem cells_none {t tx ty e : Nat} {i : TypeInfo} (w : World) (ht : P.underlying t = some (.slice e)) (hk : (∃ e', P.underlying tx = some (.slice e')) ∨ P.underlying tx = some .string) (hi : P.info? e = some i) (base : Option Addr) {v : Value}
    (hl : (Builtin.lenOf v).run P w = .ok 0 w) (hf : (Builtin.firstCells i.size 0 v).run P w = .ok #[] w) :
    (Builtin.append_ #[t, tx] ty #[.slice base 0 0, v]).run P w = .ok (.slice base 0 0) w := by
  rcases hk with ⟨e', hk⟩ | hk <;> cases base <;> simp [Builtin.append_, run_underlying ht, run_underlying hk, sizeOf, typeInfo, hi, hl, hf, storeCells]

theorem zero_all {ei : TI} {e : Nat} (hE : TIOk P e ei) (k : Nat) : ∀ u ∈ (Builtin.zeroCells ei.zero.toArray k).toList, u.oneCell' = true := by
  intro u hu
  simp only [Builtin.zeroCells, Array.toList_map, List.mem_map, Array.toList_range, List.mem_range] at hu
  obtain ⟨q, hq, rfl⟩ := hu
  have := hE.one
  rw [List.all_eq_true] at this
  have hpos : 0 < ei.zero.toArray.size := Nat.pos_of_ne_zero fun e => by simp [e] at hq
  have hlt := Nat.mod_lt q hpos
  refine this _ ?_
  rw [getElem!_pos ei.zero.toArray _ hlt]
  simp

theorem zero_len {ei : TI} {e : Nat} (hE : TIOk P e ei) (k : Nat) : (Builtin.zeroCells ei.zero.toArray k).toList.length = k * ei.size := by
  simp [Builtin.zeroCells, hE.len]

/-- there is room -/
theorem app_room {t t1 ty e : Nat} {ei : TI} (hE : TIOk P e ei) (w : World) (ht : P.underlying t = some (.slice e)) {v : Value} {n : Nat} {cs : List Value} (ha : Arg P ei t1 v n cs w) (hlen : cs.length = n * ei.size) (hone : ∀ u ∈ cs, u.oneCell' = true)
    (hsz : ei.size ≠ 0) (hby : ei.bytes ≠ 0) (b off sLen sCap : Nat) (hroom : sLen + n ≤ sCap)
    (hc : ∀ j, j < n * ei.size → (w.cell? ⟨b, off + sLen * ei.size + j, none⟩).isSome = true) (hf : ∀ j, j < n * ei.size → w.frozen? ⟨b, off + sLen * ei.size + j, none⟩ = false) :
    (Builtin.append_ #[t, t1] ty #[.slice (some ⟨b, off, none⟩) sLen sCap, v]).run P w = .ok (.slice (some ⟨b, off, none⟩) (sLen + n) sCap) (w.setCells b (off + sLen * ei.size) cs) := by
  obtain ⟨x, zv, hx, h1, h2, h3, h4⟩ := hE.exact
  cases ha with
  | zeros kn kq htn hv h48 hcs =>
    subst hv
    subst hcs
    rw [← h4] at hone ⊢
    rw [← h1] at hsz hc hf ⊢
    have h63 : (n : Int) ≤ 9223372036854775807 := by
      have h5 : n * 1 ≤ n * ei.bytes := Nat.mul_le_mul_left _ (Nat.pos_of_ne_zero hby)
      rw [Nat.mul_one] at h5
      have := Nat.le_trans h5 h48
      omega
    exact zeros_room w ht htn hx h3 b off sLen sCap n (by rw [h2]; exact h48) h63 hsz (by rw [h4, h1]; simp [hE.len]) hone hroom hc hf
  | cells hk hrun =>
    have hs := Arg.src (P := P) h1 hk hrun hlen hone
    rw [← h1] at hlen hc hf ⊢
    exact run_append_room_src w t t1 ty e x ht hx b off sLen sCap v n cs hs hroom (by rw [hlen]; exact hc) (by rw [hlen]; exact hf)

/-- nothing onto nothing -/
theorem app_none {t t1 ty e : Nat} {ei : TI} (hE : TIOk P e ei) (w : World) (ht : P.underlying t = some (.slice e)) {v : Value} {cs : List Value} (ha : Arg P ei t1 v 0 cs w) (hlen : cs.length = 0 * ei.size) (base : Option Addr) :
    (Builtin.append_ #[t, t1] ty #[.slice base 0 0, v]).run P w = .ok (.slice base 0 0) w := by
  obtain ⟨x, zv, hx, h1, h2, h3, h4⟩ := hE.exact
  cases ha with
  | zeros kn kq htn hv h48 hcs =>
    subst hv
    exact zeros_none w ht htn hx base
  | cells hk hrun =>
    have hn : cs = [] := by rw [← List.length_eq_zero_iff]; simpa using hlen
    subst hn
    obtain ⟨a1, a2⟩ := hrun w fun _ => rfl
    exact cells_none w ht hk hx base a2 (by rw [h1]; exact a1)

/-- there is no room -/
theorem app_grow {t t1 ty e : Nat} {ei : TI} (hE : TIOk P e ei) (w : World) (ht : P.underlying t = some (.slice e)) {v : Value} {n : Nat} {cs : List Value} (ha : Arg P ei t1 v n cs w) (hlen : cs.length = n * ei.size) (hone : ∀ u ∈ cs, u.oneCell' = true)
    (hsz : ei.size ≠ 0) (hby : ei.bytes ≠ 0) (base : Option Addr) (sLen sCap : Nat) (olds : List Value) (hold : (Builtin.firstCells ei.size sLen (.slice base sLen sCap)).run P w.drew = .ok olds.toArray w.drew) (hn : 0 < n) (hg : sCap < sLen + n)
    (hsmall : (2 * (sLen + n) + 512) * ei.bytes ≤ 281474976710656) :
    ∃ cap, sLen + n ≤ cap ∧ (Builtin.append_ #[t, t1] ty #[.slice base sLen sCap, v]).run P w = .ok (.slice (some ⟨w.heap.size, 0, none⟩) (sLen + n) cap)
      (w.drew.alloc (.cells (olds ++ cs ++ (Builtin.zeroCells ei.zero.toArray (cap - (sLen + n))).toList).toArray e)) := by
  obtain ⟨x, zv, hx, h1, h2, h3, h4⟩ := hE.exact
  have hb1 : 1 ≤ ei.bytes := Nat.pos_of_ne_zero hby
  have hcap : (2 * (sLen + n) + 512) ≤ 281474976710656 := by
    have h5 : (2 * (sLen + n) + 512) * 1 ≤ (2 * (sLen + n) + 512) * ei.bytes := Nat.mul_le_mul_left _ hb1
    rw [Nat.mul_one] at h5
    exact Nat.le_trans h5 hsmall
  have hfit : Builtin.nextslicecap (sLen + n) sCap * x.bytes ≤ 281474976710656 := by
    rw [h2]
    exact Nat.le_trans (Nat.mul_le_mul_right ei.bytes (nextslicecap_le hg)) hsmall
  have hgc : sLen + n ≤ grownCap w (sLen + n) sCap e := by
    unfold grownCap
    simp only [Question.cut]
    omega
  refine ⟨grownCap w (sLen + n) sCap e, hgc, ?_⟩
  rw [← h1] at hold
  cases ha with
  | zeros kn kq htn hv h48 hcs =>
    subst hv
    have := Lib.run_append_grow_zeros (P := P) w t t1 ty e x zv kq kn ht htn hx h3 base sLen sCap olds hold n hn (by rw [h1]; omega) hg (by omega) (by rw [h2]; exact h48) hfit
    rw [this, hcs, h4]
    congr 2
    apply congrArg (fun c => Obj.cells c e)
    apply Array.ext'
    simp
  | cells hk hrun =>
    have hs := Arg.src (P := P) h1 hk hrun hlen hone
    have := run_append_grow_src w t t1 ty e x zv ht hx h3 base sLen sCap olds hold v n cs hs hg (by omega) hfit
    rw [this, h4]
    congr 2
    apply congrArg (fun c => Obj.cells c e)
    apply Array.ext'
    simp

include hG

theorem srcArg_ok {S : Nat → Prop} {f : Fn} {z : Z} {w : World} {x : CV} {v : Value} {src : Src} {fx : List Nat} {ti1 ei : TI} {t1 e : Nat} (h1 : G.ti t1 = some ti1) (he : G.ti e = some ei)
    (h : (match ti1.kind, x with
        | .int _, .f (.lit (.int _ l)) =>
          T.need (decide (0 ≤ l ∧ l * ei.bytes ≤ 281474976710656)) (match G.sym with
            | false => .ret (Src.flat l.toNat (List.replicate l.toNat (zeros ei)).flatten, [])
            | true => .ret (.fn l.toNat (fun _ => ei.zero.map .lit), []))
        | .slice _, x => srcOf st.H ei.size x
        | .str, x => srcOf st.H ei.size x
        | _, _ => .bad).res = some (src, fx)) (hr : Rel S f st.nx z w st.H) (hS : ∀ b ∈ fx, S b) (hv : RC f st.nx z x v) :
    ∃ cs : List Value, Arg P ei t1 v src.n cs w ∧ SrcOk f st.nx z ei.size src cs := by
  have hE := hG.ti e ei he
  have h1' := hG.ti t1 ti1 h1
  obtain ⟨d, hd, hk0, _⟩ := h1'.und
  split at h
  · rename_i kd kd' l hk
    obtain ⟨hl, h⟩ := T.need_some h
    simp only [decide_eq_true_eq] at hl
    cases hv
    have hd' := kindOf_int (hk0.trans hk)
    subst hd'
    have hz : (Builtin.zeroCells ei.zero.toArray l.toNat).toList = (List.replicate l.toNat ei.zero).flatten := by
      by_cases h0 : ei.zero.toArray.size = 0
      · have : ei.zero = [] := by rw [← List.length_eq_zero_iff]; simpa using h0
        simp [Builtin.zeroCells, this]
      · have := repl_zero ei.zero.toArray l.toNat h0
        simpa [Builtin.zeroCells] using this
    have hn : src.n = l.toNat := by
      split at h <;> (have h := T.ret_some h; simp only [Prod.mk.injEq] at h; obtain ⟨rfl, rfl⟩ := h; rfl)
    have hll : l = (l.toNat : Int) := by omega
    refine ⟨(Builtin.zeroCells ei.zero.toArray l.toNat).toList, ?_, ?_⟩
    · rw [hn]
      refine .zeros kd kd' hd (by rw [← hll]) ?_ rfl
      have := hl.2
      rw [hll] at this
      rw [← Int.natCast_mul] at this
      omega
    · split at h
      · have h := T.ret_some h
        simp only [Prod.mk.injEq] at h
        obtain ⟨rfl, rfl⟩ := h
        refine ⟨⟨zero_len hE _, zero_all hE _⟩, ?_⟩
        rw [hz]
        exact (RL.lits hE.one).repl _
      · have h := T.ret_some h
        simp only [Prod.mk.injEq] at h
        obtain ⟨rfl, rfl⟩ := h
        refine ⟨⟨zero_len hE _, zero_all hE _⟩, fun i j y hi hj hy => ?_⟩
        simp only [List.getElem?_map] at hy
        cases hq : ei.zero[j]? with
        | none => rw [hq] at hy; cases hy
        | some q =>
          rw [hq] at hy
          simp only [Option.map_some, Option.some.injEq] at hy
          subst hy
          refine ⟨q, ?_, RF.lit q ?_⟩
          · rw [hz]
            have hlen : ei.size = ei.zero.length := hE.len.symm
            have key : ∀ (n i : Nat), i < n → (List.replicate n ei.zero).flatten[i * ei.zero.length + j]? = some q := by
              intro n
              induction n with
              | zero => intro i hi; omega
              | succ n ih =>
                intro i hi
                rw [List.replicate_succ, List.flatten_cons]
                cases i with
                | zero => rw [Nat.zero_mul, Nat.zero_add, List.getElem?_append_left (List.getElem?_eq_some_iff.1 hq).1]; exact hq
                | succ i =>
                  rw [Nat.add_mul, Nat.one_mul, List.getElem?_append_right (by omega)]
                  rw [show i * ei.zero.length + ei.zero.length + j - ei.zero.length = i * ei.zero.length + j by omega]
                  exact ih i (by omega)
            rw [hlen]
            exact key _ i hi
          · have := hE.one
            rw [List.all_eq_true] at this
            exact this q (List.mem_of_getElem? hq)
  · rename_i e' hk
    have hd' := kindOf_slice (hk0.trans hk)
    subst hd'
    obtain ⟨cs, a1, a3⟩ := srcOf_ok (P := P) h hr hS hv
    exact ⟨cs.toList, .cells (.inl ⟨_, hd⟩) (fun w' hw => by simpa using a1 w' hw), a3⟩
  · rename_i hk
    have hd' := kindOf_str (hk0.trans hk)
    subst hd'
    obtain ⟨cs, a1, a3⟩ := srcOf_ok (P := P) h hr hS hv
    exact ⟨cs.toList, .cells (.inr hd) (fun w' hw => by simpa using a1 w' hw), a3⟩
  · exact (T.bad_some h).elim

omit hG in
/-- a new row of cells, told as a new block -/
theorem grow_post {S : Nat → Prop} {f : Fn} {z : Z} {w : World} (hr : Rel S f st.nx z w st.H) (hno : ∀ b, st.nx ≤ b → ¬ (st.H.get b).live) {sz : Nat} {s : Src} {cs rest : List Value} {cap : Nat} (e : TypeId)
    (hs : SrcOk f st.nx z sz s cs) (hrest : rest.length = (cap - s.n) * sz) (hone : ∀ v ∈ rest, v.oneCell' = true) (hcap : s.n ≤ cap) (kill : List Nat) (hk : ∀ b ∈ kill, S b ∧ b < st.nx) {fp : List Nat} (h : (grown st kill sz s fp).res = some u) :
    ∃ f', Post S f st.nx z w st.H f' u.nx z (w.drew.alloc (.cells (cs ++ rest).toArray e)) u.H u.esc ∧ RS f' u.nx z u.v (.slice (some ⟨w.heap.size, 0, none⟩) s.n cap) ∧ u.fp = fp ∧ u.wr = st.nx :: kill := by
  have hall : Post S f st.nx z w st.H (upd f st.nx ⟨w.heap.size, 0, (cs ++ rest).toArray.size⟩) (st.nx + 1) z (w.drew.alloc (.cells (cs ++ rest).toArray e)) ((st.nx, s.ob sz) :: st.H) false := by
    refine (Post.alloc hr.drew hno (s.ob sz) (cs ++ rest).toArray e (Src.ob_noMap s sz) (fun v hv => (List.mem_append.1 (by simpa using hv)).elim (hs.all v) (hone v)) fun m i j x hx => ?_).undrew
    obtain ⟨v, hv, hc⟩ := hs.at m i j x hx
    refine ⟨v, ?_, hc⟩
    simp only [List.getElem?_toArray]
    rw [List.getElem?_append_left (List.getElem?_eq_some_iff.1 hv).1]
    exact hv
  have hkill : ∀ (l : List Nat), (∀ b ∈ l, S b ∧ b < st.nx) → ∀ H : Heap, Post S f st.nx z w st.H (upd f st.nx ⟨w.heap.size, 0, (cs ++ rest).toArray.size⟩) (st.nx + 1) z (w.drew.alloc (.cells (cs ++ rest).toArray e)) ((st.nx, s.ob sz) :: H) false →
      Post S f st.nx z w st.H (upd f st.nx ⟨w.heap.size, 0, (cs ++ rest).toArray.size⟩) (st.nx + 1) z (w.drew.alloc (.cells (cs ++ rest).toArray e)) ((st.nx, s.ob sz) :: l.foldl (fun H b => Heap.put H b .dead) H) false := by
    intro l
    induction l with
    | nil => intro _ H h; exact h
    | cons b l ih =>
      intro hl H h
      obtain ⟨hb, hlt⟩ := hl b (by simp)
      refine ih (fun c hc => hl c (by simp [hc])) (Heap.put H b .dead) ((Post.kill h b hb).congr fun c => ?_)
      rw [Heap.get_put, Heap.get_cons, Heap.get_cons, Heap.get_put]
      by_cases e1 : st.nx = c
      · subst e1; simp [Nat.ne_of_lt hlt]
      · simp [e1]
  have hfin := hkill kill hk st.H hall
  have hlen : (cs ++ rest).toArray.size = cap * sz := by
    simp only [List.size_toArray, List.length_append]
    rw [hs.len, hrest, ← Nat.add_mul]
    congr 1
    omega
  have hval : ∀ m, RS (upd f st.nx ⟨w.heap.size, 0, (cs ++ rest).toArray.size⟩) (st.nx + 1) z (.one (.sl false st.nx m 0 0 s.n s.n false sz)) (.slice (some ⟨w.heap.size, 0, none⟩) s.n cap) := fun m =>
    ⟨Nat.lt_succ_self _, (fun h => by cases h), fun _ => ⟨cap, by simp [ad, upd_same], hcap, hcap, (fun h => by cases h), by rw [upd_same, hlen]; simp⟩⟩
  cases s with
  | flat n l =>
    have h := T.ret_some h
    subst h
    exact ⟨_, hfin, hval 0, rfl, rfl⟩
  | fn n g =>
    have h := T.ret_some h
    subst h
    exact ⟨_, hfin, hval sz, rfl, rfl⟩

end ops
end Go.Proofs.YtbobakclbdaepaaGreat.En
