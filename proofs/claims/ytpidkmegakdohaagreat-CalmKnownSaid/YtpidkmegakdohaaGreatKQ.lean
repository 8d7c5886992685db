/- The closed engine: a call on what is there just so, known from then on; its run in pieces, through loops. -/
import Derived.Test.YtpidkmegakdohaaGreatKP
import Derived.LoopN
namespace Go.Proofs.YtpidkmegakdohaaGreat.Kn
open Go
set_option linter.unusedVariables false
set_option linter.unusedSimpArgs false

/-! alike? -/
def cvSame : CV → CV → Bool
  | .f (.lit (.int k a)), .f (.lit (.int k' b)) => decide (k = k') && a == b
  | .f (.lit (.bool a)), .f (.lit (.bool b)) => a == b
  | .f (.lit (.string a)), .f (.lit (.string b)) => a.data.toList == b.data.toList
  | .f (.lit (.slice none 0 0)), .f (.lit (.slice none 0 0)) => true
  | .f (.lit (.pointer none)), .f (.lit (.pointer none)) => true
  | .f (.lit (.map none)), .f (.lit (.map none)) => true
  | .f (.z0 a), .f (.z0 b) => a == b
  | .ptr b m i j, .ptr b' m' i' j' => Nat.beq b b' && Nat.beq m m' && Nat.beq i i' && Nat.beq j j'
  | .sl nil b m i j len cap ex sz, .sl nil' b' m' i' j' len' cap' ex' sz' => nil == nil' && Nat.beq b b' && Nat.beq m m' && Nat.beq i i' && Nat.beq j j' && Nat.beq len len' && Nat.beq cap cap' && ex == ex' && Nat.beq sz sz'
  | .mp b, .mp b' => Nat.beq b b'
  | _, _ => false

theorem cvSame_eq {x y : CV} (h : cvSame x y = true) : x = y := by
  unfold cvSame at h
  split at h
  · simp only [Bool.and_eq_true, decide_eq_true_eq, beq_iff_eq] at h; rw [h.1, h.2]
  · rw [beq_iff_eq] at h; rw [h]
  · rename_i a b
    rw [beq_iff_eq] at h
    obtain ⟨⟨a⟩⟩ := a
    obtain ⟨⟨b⟩⟩ := b
    have h : a = b := h
    rw [h]
  · rfl
  · rfl
  · rfl
  · rw [beq_iff_eq] at h; rw [h]
  · simp only [Bool.and_eq_true] at h
    obtain ⟨⟨⟨h1, h2⟩, h3⟩, h4⟩ := h
    rw [nbeq h1, nbeq h2, nbeq h3, nbeq h4]
  · simp only [Bool.and_eq_true, beq_iff_eq] at h
    obtain ⟨⟨⟨⟨⟨⟨⟨⟨h0, h1⟩, h2⟩, h3⟩, h4⟩, h5⟩, h6⟩, h7⟩, h8⟩ := h
    rw [h0, nbeq h1, nbeq h2, nbeq h3, nbeq h4, nbeq h5, nbeq h6, h7, nbeq h8]
  · rw [nbeq h]
  · cases h

def allSame {α : Type} (f : α → α → Bool) : List α → List α → Bool
  | [], [] => true
  | x :: l, y :: r => f x y && allSame f l r
  | _, _ => false
theorem allSame_eq {α : Type} {f : α → α → Bool} (hf : ∀ x y, f x y = true → x = y) : ∀ {l r : List α}, allSame f l r = true → l = r
  | [], [], _ => rfl
  | x :: l, y :: r, h => by
    simp only [allSame, Bool.and_eq_true] at h
    rw [hf x y h.1, allSame_eq hf h.2]
  | [], _ :: _, h => by cases h
  | _ :: _, [], h => by cases h
def avSame : AV → AV → Bool
  | .one x, .one y => cvSame x y
  | .agg l, .agg r => allSame cvSame l r
  | _, _ => false
theorem avSame_eq (x y : AV) (h : avSame x y = true) : x = y := by
  unfold avSame at h
  split at h
  · rw [cvSame_eq h]
  · rw [allSame_eq (fun _ _ h => cvSame_eq h) h]
  · cases h
def obSame : Ob → Ob → Bool
  | .cells l, .cells r => allSame cvSame l r
  | _, _ => false
theorem obSame_eq {x y : Ob} (h : obSame x y = true) : x = y := by
  unfold obSame at h
  split at h
  · rw [allSame_eq (fun _ _ h => cvSame_eq h) h]
  · cases h

/-! a call on what is there just so -/
structure LC where
  args : List AV
  nx : Nat
  hp : List (Nat × Ob)
  v : SV
  hp1 : List (Nat × Ob)
  nx1 : Nat

def LC.ids (l : LC) : List Nat := l.hp.map (·.1)
/-- what is laid over a heap behind it -/
noncomputable def putAll : List (Nat × Ob) → Heap → Heap
  | [], H => H
  | (b, o) :: r, H => (putAll r H).put b o
noncomputable def killAll : List Nat → Heap → Heap
  | [], H => H
  | b :: r, H => (killAll r H).put b .dead

noncomputable def agree (H : Heap) : List (Nat × Ob) → Bool
  | [] => true
  | (b, o) :: r => obSame (Heap.get H b) o && agree H r

def LC.ok (l : LC) : Bool := Nat.ble l.nx l.nx1 && l.hp.all (fun p => Nat.ble (p.1 + 1) l.nx) && l.hp1.all fun p => Nat.ble (p.1 + 1) l.nx1 && (Nat.ble l.nx p.1 || l.ids.any (Nat.beq p.1))

noncomputable def lcSum (l : LC) (args : List AV) (H : Heap) (nx : Nat) : T CallOut :=
  match allSame avSame args l.args && Nat.beq nx l.nx && agree H l.hp with
  | true => .ret ⟨l.v, putAll l.hp1 (killAll l.ids H), l.nx1, true, l.ids⟩
  | false => .bad

theorem killAll_get : ∀ (l : List Nat) (H : Heap) (b : Nat), (killAll l H).get b = if b ∈ l then .dead else H.get b
  | [], H, b => by simp [killAll]
  | c :: r, H, b => by
    rw [killAll, Heap.get_put, killAll_get r H b]
    by_cases e : c = b
    · subst e; simp
    · have : ¬ b = c := fun h => e h.symm
      simp [e, this]

theorem putAll_get (l : List (Nat × Ob)) (b : Nat) : (∃ o, (b, o) ∈ l ∧ ∀ H : Heap, (putAll l H).get b = o) ∨ ((∀ o, (b, o) ∉ l) ∧ ∀ H : Heap, (putAll l H).get b = H.get b) := by
  induction l with
  | nil => exact .inr ⟨fun o h => (by cases h), fun H => rfl⟩
  | cons x r ih =>
    obtain ⟨c, o⟩ := x
    by_cases e : c = b
    · subst e
      exact .inl ⟨o, by simp, fun H => by rw [putAll, Heap.get_put, if_pos rfl]⟩
    · rcases ih with ⟨o', h1, h2⟩ | ⟨h1, h2⟩
      · exact .inl ⟨o', by simp [h1], fun H => by rw [putAll, Heap.get_put, if_neg e]; exact h2 H⟩
      · refine .inr ⟨fun o' h => ?_, fun H => by rw [putAll, Heap.get_put, if_neg e]; exact h2 H⟩
        rcases List.mem_cons.1 h with h | h
        · simp only [Prod.mk.injEq] at h; exact e h.1.symm
        · exact h1 o' h

theorem mkH_put : ∀ (l : List (Nat × Ob)), mkH l = putAll l Heap.none
  | [] => rfl
  | (b, o) :: r => by rw [mkH, putAll, mkH_put r]

theorem agree_get {H : Heap} : ∀ {l : List (Nat × Ob)}, agree H l = true → ∀ b o, (b, o) ∈ l → H.get b = o
  | [], _, b, o, h => by cases h
  | (c, x) :: r, ha, b, o, h => by
    simp only [agree, Bool.and_eq_true] at ha
    rcases List.mem_cons.1 h with h | h
    · simp only [Prod.mk.injEq] at h
      rw [h.1, h.2]
      exact obSame_eq ha.1
    · exact agree_get ha.2 b o h

theorem Post.congrL {S : Nat → Prop} {f f' : Fn} {nx nx' : Nat} {z z' : Z} {w w' : World} {I I' A : Heap} {esc : Bool} (e : ∀ b, I'.get b = I.get b) (h : Post S f nx z w I f' nx' z' w' A esc) : Post S f nx z w I' f' nx' z' w' A esc := by
  have himg : ∀ k, img S f I k → img S f I' k := fun k ⟨b, hs, hl, hb⟩ => ⟨b, hs, by rw [e]; exact hl, hb⟩
  exact ⟨h.hnx, h.ext, h.zle, fun k o v hv => (h.znew k o v hv).imp id (Or.imp id (himg k)), fun b hb hs => by rw [e]; exact h.same b hb hs, fun b hb hl => by rw [e]; exact h.dead b hb hl, h.rel, fun b hb hl => (h.fresh b hb hl).imp id (himg _), h.fr.less fun x _ => himg x,
    fun he m hm hN => h.noesc he m hm fun b l hb hg => hN b l hb (by rw [e]; exact hg)⟩

theorem LC.mem_ids {l : LC} {b : Nat} : b ∈ l.ids ↔ ∃ o, (b, o) ∈ l.hp := by
  simp only [LC.ids, List.mem_map]
  constructor
  · rintro ⟨⟨c, o⟩, h, rfl⟩; exact ⟨o, h⟩
  · rintro ⟨o, h⟩; exact ⟨(b, o), h, rfl⟩

theorem lcSum_ok {P : Program} {g : Nat} {l : LC} (hok : l.ok = true) (h : CallTo P g l.args (mkH l.hp) l.nx ⟨l.v, mkH l.hp1, l.nx1, true, []⟩) : ∀ args H nx r, (lcSum l args H nx).res = some r → CallTo P g args H nx r := by
  intro args H nx r hr
  unfold lcSum at hr
  split at hr
  · rename_i hc
    have := T.ret_some hr
    subst this
    simp only [Bool.and_eq_true] at hc
    obtain ⟨⟨ha, hn⟩, hg⟩ := hc
    have ha := allSame_eq avSame_eq ha
    have hn := nbeq hn
    subst ha hn
    simp only [LC.ok, Bool.and_eq_true, List.all_eq_true] at hok
    obtain ⟨⟨_, o2⟩, o3⟩ := hok
    intro f z w vs hrel hargs R hR
    have hin : ∀ b, (mkH l.hp).get b = if b ∈ l.ids then H.get b else .dead := fun b => by
      rw [mkH_put]
      rcases putAll_get l.hp b with ⟨o, h1, h2⟩ | ⟨h1, h2⟩
      · rw [h2, if_pos (LC.mem_ids.2 ⟨o, h1⟩), agree_get hg b o h1]
      · rw [h2, if_neg (fun hb => by obtain ⟨o, ho⟩ := LC.mem_ids.1 hb; exact h1 o ho), Heap.get_none]
    have hrelI : Rel All f l.nx z w (mkH l.hp) := by
      have key : ∀ b, ((mkH l.hp).get b).live → (mkH l.hp).get b = H.get b := fun b hl => by
        rw [hin] at hl ⊢
        split at hl
        · rename_i hb; rw [if_pos hb]
        · exact hl.elim
      refine ⟨fun b hs hl => ?_, fun b c hb hc hbl hcl hne => ?_, hrel.zok⟩
      · rw [key b hl]
        exact hrel.own b hs (by rw [← key b hl]; exact hl)
      · exact hrel.inj b c hb hc (by rw [← key b hbl]; exact hbl) (by rw [← key c hcl]; exact hcl) hne
    refine h f z w vs hrelI hargs R fun f' z' w' v' hp hv => hR f' z' w' v' ?_ hv
    have h1 := Post.part l.ids hrel.noLive (Post.congrL (I' := lay H l.ids Heap.none) (fun b => by rw [get_lay, Heap.get_none, hin]) hp)
    refine Post.weak (Post.lift hrel (Post.sift (A' := putAll l.hp1 (killAll l.ids H)) h1 fun b => ?_)) (fun h => by cases h)
    rw [get_lay]
    have hA : ∀ b, (mkH l.hp1).get b = (putAll l.hp1 Heap.none).get b := fun b => by rw [mkH_put]
    simp only [List.mem_append, List.mem_map, List.mem_range]
    rcases putAll_get l.hp1 b with ⟨o, h3, h4⟩ | ⟨h3, h4⟩
    · left
      rw [h4, if_pos, hA, h4]
      have := o3 (b, o) h3
      simp only [Bool.and_eq_true, Bool.or_eq_true] at this
      obtain ⟨t1, t2⟩ := this
      have t1 := nble t1
      rcases t2 with t2 | t2
      · exact .inr ⟨b - l.nx, by have := nble t2; simp only at *; omega, by have := nble t2; simp only at *; omega⟩
      · exact .inl ((anyBeq _ _).1 t2)
    · rw [h4, killAll_get]
      by_cases hb : b ∈ l.ids
      · right
        rw [if_pos hb]
        exact id
      · rw [if_neg hb]
        by_cases hnew : b < l.nx
        · left
          rw [if_neg]
          rintro (h | ⟨a, _, rfl⟩)
          · exact hb h
          · omega
        · right
          exact hrel.noLive b (by omega)
  · exact (T.bad_some hr).elim

theorem lcSum_keeps {l : LC} (hok : l.ok = true) : ∀ args H nx, (lcSum l args H nx).Every fun o => Low nx H → nx ≤ o.nx ∧ Low o.nx o.H ∧ (∀ b, b < nx → b ∉ o.wr → o.H.get b = H.get b) ∧ ∀ b ∈ o.wr, b < nx := by
  intro args H nx
  unfold lcSum
  split
  · rename_i hc
    simp only [Bool.and_eq_true] at hc
    obtain ⟨⟨_, hn⟩, _⟩ := hc
    have hn := nbeq hn
    subst hn
    simp only [LC.ok, Bool.and_eq_true, List.all_eq_true] at hok
    obtain ⟨⟨o1, o2⟩, o3⟩ := hok
    have hids : ∀ b ∈ l.ids, b < l.nx := fun b hb => by
      obtain ⟨o, ho⟩ := LC.mem_ids.1 hb
      exact nble (o2 (b, o) ho)
    have hmem : ∀ b o, (b, o) ∈ l.hp1 → b < l.nx1 ∧ (l.nx ≤ b ∨ b ∈ l.ids) := fun b o h3 => by
      have := o3 (b, o) h3
      simp only [Bool.and_eq_true, Bool.or_eq_true] at this
      exact ⟨nble this.1, this.2.imp nble (anyBeq _ _).1⟩
    refine fun hlow => ⟨nble o1, fun b hb => ?_, fun b hb hw => ?_, hids⟩
    · simp only at hb ⊢
      have hle := nble o1
      rcases putAll_get l.hp1 b with ⟨o, h3, h4⟩ | ⟨h3, h4⟩
      · have := (hmem b o h3).1; omega
      · rw [h4, killAll_get]
        split
        · exact id
        · exact hlow b (by omega)
    · simp only at hw ⊢
      rcases putAll_get l.hp1 b with ⟨o, h3, h4⟩ | ⟨h3, h4⟩
      · rcases (hmem b o h3).2 with h | h
        · omega
        · exact absurd h hw
      · rw [h4, killAll_get, if_neg hw]
  · trivial

/-- a few calls of one function, each on what is there just so -/
noncomputable def lcSums : List LC → List AV → Heap → Nat → T CallOut
  | [], _, _, _ => .bad
  | l :: r, args, H, nx => match Nat.beq nx l.nx with
    | true => lcSum l args H nx
    | false => lcSums r args H nx

/-- what was known, and these -/
noncomputable def Ctx.knowL (G : Ctx) (g : Nat) (ls : List LC) : Ctx := { G with sum := fun k => match Nat.beq g k with | true => some (lcSums ls) | false => G.sum k }

structure LCOk (P : Program) (g : Nat) (l : LC) : Prop where
  ok : l.ok = true
  call : CallTo P g l.args (mkH l.hp) l.nx ⟨l.v, mkH l.hp1, l.nx1, true, []⟩

theorem lcSums_ok {P : Program} {g : Nat} : ∀ {ls : List LC}, (∀ l ∈ ls, LCOk P g l) → (∀ args H nx r, (lcSums ls args H nx).res = some r → CallTo P g args H nx r) ∧
    ∀ args H nx, (lcSums ls args H nx).Every fun o => Low nx H → nx ≤ o.nx ∧ Low o.nx o.H ∧ (∀ b, b < nx → b ∉ o.wr → o.H.get b = H.get b) ∧ ∀ b ∈ o.wr, b < nx
  | [], _ => ⟨fun args H nx r h => (T.bad_some h).elim, fun _ _ _ => trivial⟩
  | l :: ls, h => by
    obtain ⟨h1, h2⟩ := lcSums_ok (ls := ls) fun l hl => h l (by simp [hl])
    have h0 := h l (by simp)
    refine ⟨fun args H nx r hr => ?_, fun args H nx => ?_⟩
    · simp only [lcSums] at hr
      split at hr
      · exact lcSum_ok h0.ok h0.call args H nx r hr
      · exact h1 args H nx r hr
    · simp only [lcSums]
      split
      · exact lcSum_keeps h0.ok args H nx
      · exact h2 args H nx

theorem lcs_nil {P : Program} {g : Nat} : ∀ l ∈ ([] : List LC), LCOk P g l := fun l hl => by cases hl
theorem lcs_cons {P : Program} {g : Nat} {l : LC} {ls : List LC} (h : LCOk P g l) (hs : ∀ l ∈ ls, LCOk P g l) : ∀ x ∈ l :: ls, LCOk P g x := fun x hx => by
  rcases List.mem_cons.1 hx with rfl | hx
  · exact h
  · exact hs x hx

theorem Ctx.knowL_ok {P : Program} {G : Ctx} {g : Nat} {ls : List LC} (h : CtxOk P G) : CtxOk P (G.knowL g ls) := ⟨h.ti, h.fi, h.mixed⟩

theorem Ctx.knowL_known {P : Program} {G : Ctx} {g : Nat} {ls : List LC} (h : KnownOk P G) (hc : ∀ l ∈ ls, LCOk P g l) : KnownOk P (G.knowL g ls) where
  sum := fun k s hs => by
    simp only [Ctx.knowL] at hs
    split at hs
    · rename_i e
      have e := nbeq e
      subst e
      cases hs
      exact (lcSums_ok hc).1
    · exact h.sum k s hs
  sumK := fun k s hs => by
    simp only [Ctx.knowL] at hs
    split at hs
    · cases hs
      exact (lcSums_ok hc).2
    · exact h.sumK k s hs
  dr := fun f fn c h1 h2 => DrOk.congr (G := G) (G' := G.knowL g ls) rfl (h.dr f fn c h1 h2)

/-! what a code comes to, in pieces -/
def Trip (P : Program) (N : Nat) (c : Code) (st0 : St) (e : Exit) (st : St) : Prop := ∀ (f : Fn) (z : Z) (w : World) (a : Act), TR f st0.nx z st0.sl a.tmps → Rel All f st0.nx z w st0.H → a.tmps.size = N → a.defers = [] →
  ∀ (Q : Exit → Act → World → Prop), (∀ f' z' w' a', Post All f st0.nx z w st0.H f' st.nx z' w' st.H true → TR f' st.nx z' st.sl a'.tmps → a'.tmps.size = N → a'.defers = [] → Q e a' w') → c.wp P Q a w

/-- so many rounds of a loop -/
def Rounds (P : Program) (N : Nat) (c : Code) (n : Nat) (st0 : St) (e : Exit) (st : St) : Prop := ∀ (f : Fn) (z : Z) (w : World) (a : Act), TR f st0.nx z st0.sl a.tmps → Rel All f st0.nx z w st0.H → a.tmps.size = N → a.defers = [] →
  ∀ (Q : Exit → Act → World → Prop), (∀ f' z' w' a', Post All f st0.nx z w st0.H f' st.nx z' w' st.H true → TR f' st.nx z' st.sl a'.tmps → a'.tmps.size = N → a'.defers = [] → Q e a' w') → Code.rounds P c Q n a w

theorem Post.less {f f' : Fn} {nx : Nat} {z z' : Z} {w w' : World} {H : Heap} {st st' : St} {e : Bool} (hl : Less st st') (h : Post All f nx z w H f' st.nx z' w' st.H e) : Post All f nx z w H f' st'.nx z' w' st'.H true := by
  rw [hl.nx]
  exact Post.weak (Post.sift h fun b => (hl.H b).imp id fun e => by rw [e]; exact id) (fun h => by cases h)

theorem TR.less {f : Fn} {z : Z} {a : Array Value} {st st' : St} (hl : Less st st') (h : TR f st.nx z st.sl a) : TR f st'.nx z st'.sl a := fun t => by
  rw [hl.nx]
  rcases hl.sl t with e | e
  · rw [e]; exact h t
  · rw [e]; trivial

section
variable {P : Program} {N : Nat}

theorem CodeOk.trip {c : Code} {st0 st : St} {e : Ex} (h : CodeOk P N c st0 e st) : Trip P N c st0 (exitOf e) st := fun f z w a ht hr hN hd Q hQ =>
  h.2 f z w a ht hr hN hd Q fun f' z' w' a' hp => hQ f' z' w' a' (hp.weak fun h => by cases h)

theorem Trip.less {c : Code} {st0 st st' : St} {e : Exit} (h : Trip P N c st0 e st) (hl : Less st st') : Trip P N c st0 e st' := fun f z w a ht hr hN hd Q hQ =>
  h f z w a ht hr hN hd Q fun f' z' w' a' hp ht' => hQ f' z' w' a' (hp.less hl) (ht'.less hl)

theorem Trip.seq {x y : Code} {st0 st1 st : St} {e : Exit} (h : Trip P N x st0 .normal st1) (k : Trip P N y st1 e st) : Trip P N (.seq x y) st0 e st := fun f z w a ht hr hN hd Q hQ =>
  wp_seq (h f z w a ht hr hN hd _ fun f' z' w' a' hp ht' hN' hd' => k f' z' w' a' ht' hp.all hN' hd' Q fun f'' z'' w'' a'' hp2 => hQ f'' z'' w'' a'' ((Post.trans hp hp2).weak fun h => by cases h))

theorem Trip.block {c : Code} {id : Nat} {st0 st : St} (h : Trip P N c st0 (.exit id) st) : Trip P N (.block id c) st0 .normal st := fun f z w a ht hr hN hd Q hQ =>
  wp_block (h f z w a ht hr hN hd _ fun f' z' w' a' hp ht' hN' hd' => by
    have := hQ f' z' w' a' hp ht' hN' hd'
    simpa only [Exit.inBlock, if_true] using this)

theorem Rounds.loop {c : Code} {n : Nat} {st0 st : St} {e : Exit} (h : Rounds P N c n st0 e st) : Trip P N (.loop c) st0 e st := fun f z w a ht hr hN hd Q hQ =>
  wp_loop_rounds n (h f z w a ht hr hN hd Q hQ)

theorem Rounds.last {c : Code} {st0 st : St} {e : Exit} (he : e ≠ .normal) (h : Trip P N c st0 e st) : Rounds P N c 1 st0 e st := fun f z w a ht hr hN hd Q hQ => by
  rw [rounds_succ]
  refine h f z w a ht hr hN hd _ fun f' z' w' a' hp ht' hN' hd' => ?_
  have := hQ f' z' w' a' hp ht' hN' hd'
  cases e with
  | normal => exact absurd rfl he
  | _ => exact this

theorem Rounds.more {c : Code} {n : Nat} {st0 st1 st : St} {e : Exit} (h : Trip P N c st0 .normal st1) (k : Rounds P N c n st1 e st) : Rounds P N c (n + 1) st0 e st := fun f z w a ht hr hN hd Q hQ => by
  rw [rounds_succ]
  exact h f z w a ht hr hN hd _ fun f' z' w' a' hp ht' hN' hd' => k f' z' w' a' ht' hp.all hN' hd' Q fun f'' z'' w'' a'' hp2 => hQ f'' z'' w'' a'' ((Post.trans hp hp2).weak fun h => by cases h)

theorem Post.fromLess {f f' : Fn} {nx' : Nat} {z z' : Z} {w w' : World} {H' : Heap} {st0 st0' : St} {e : Bool} (hl : Less st0 st0') (h : Post All f st0'.nx z w st0'.H f' nx' z' w' H' e) : Post All f st0.nx z w st0.H f' nx' z' w' H' true := by
  have hget : ∀ b, (st0'.H.get b).live → (st0.H.get b).live := fun b hb => by
    rcases hl.H b with e | e
    · rw [← e]; exact hb
    · rw [e] at hb; exact hb.elim
  have himg : ∀ k, img All f st0'.H k → img All f st0.H k := fun k ⟨b, _, hb, hk⟩ => ⟨b, trivial, hget b hb, hk⟩
  rw [hl.nx] at h
  exact ⟨h.hnx, h.ext, h.zle, fun k o v hv => (h.znew k o v hv).imp id (Or.imp id (himg k)), fun b _ hs => absurd trivial hs, fun b hb hb' => hget b (h.dead b hb hb'), h.rel, fun b hb hb' => (h.fresh b hb hb').imp id (himg _), h.fr.less fun x _ => himg x, fun h => by cases h⟩

theorem Rel.less2 {f : Fn} {z : Z} {w : World} {st st' : St} (hl : Less st st') (hr : Rel All f st.nx z w st.H) : Rel All f st'.nx z w st'.H := by
  have hget : ∀ b, (st'.H.get b).live → Heap.get st'.H b = Heap.get st.H b := fun b hb => (hl.H b).resolve_right fun e => by rw [e] at hb; exact hb
  refine ⟨fun b hs hb => ?_, fun b c hb hc hbl hcl hne => ?_, hr.zok⟩
  · have e := hget b hb
    rw [hl.nx, e]
    exact hr.own b hs (by rw [← e]; exact hb)
  · exact hr.inj b c hb hc (by rw [← hget b hbl]; exact hbl) (by rw [← hget c hcl]; exact hcl) hne

theorem Rounds.lessL {c : Code} {n : Nat} {st0 st0' st : St} {e : Exit} (hl : Less st0 st0') (h : Rounds P N c n st0' e st) : Rounds P N c n st0 e st := fun f z w a ht hr hN hd Q hQ =>
  h f z w a (ht.less hl) (hr.less2 hl) hN hd Q fun f' z' w' a' hp => hQ f' z' w' a' (hp.fromLess hl)

theorem Trip.lessL {c : Code} {st0 st0' st : St} {e : Exit} (hl : Less st0 st0') (h : Trip P N c st0' e st) : Trip P N c st0 e st := fun f z w a ht hr hN hd Q hQ =>
  h f z w a (ht.less hl) (hr.less2 hl) hN hd Q fun f' z' w' a' hp => hQ f' z' w' a' (hp.fromLess hl)

end

/-- k rounds in a row -/
def iterC (c : Code) : Nat → Code
  | 0 => .skip
  | k + 1 => .seq c (iterC c k)

section
variable {P : Program} {G : Ctx} (hG : CtxOk P G) (hK : KnownOk P G) {N F : Nat}
include hG hK

theorem cutT_ok : ∀ (k n : Nat) (c : Code) (st0 st : St) (e : Exit) (st' : St), DrOk G F c → (ev G n F N (cutC k c) st0).res = some (.normal, st) → Trip P N (restC k c) st e st' → Trip P N c st0 e st'
  | 0, n, c, st0, st, e, st', hdr, h, hgo => by
    cases n with
    | zero => exact (T.bad_some h).elim
    | succ n =>
      have := T.ret_some h
      simp only [Prod.mk.injEq, true_and] at this
      subst this
      exact hgo
  | k + 1, n, .seq x y, st0, st, e, st', hdr, h, hgo => by
    cases n with
    | zero => exact (T.bad_some h).elim
    | succ n =>
      simp only [cutC, ev] at h
      obtain ⟨⟨e1, st1⟩, h1, h2⟩ := T.bind_some h
      cases e1 with
      | exit id => have := T.ret_some h2; simp at this
      | ret => have := T.ret_some h2; simp at this
      | normal => exact Trip.seq (ev_ok hG hK n F N x st0 .normal st1 hdr.1 h1).trip (cutT_ok k n y st1 st e st' hdr.2 h2 hgo)
  | k + 1, n, .skip, st0, st, e, st', hdr, h, hgo => by cases n <;> exact (T.bad_some h).elim
  | k + 1, n, .region .., st0, st, e, st', hdr, h, hgo => by cases n <;> exact (T.bad_some h).elim
  | k + 1, n, .cond .., st0, st, e, st', hdr, h, hgo => by cases n <;> exact (T.bad_some h).elim
  | k + 1, n, .block .., st0, st, e, st', hdr, h, hgo => by cases n <;> exact (T.bad_some h).elim
  | k + 1, n, .loop .., st0, st, e, st', hdr, h, hgo => by cases n <;> exact (T.bad_some h).elim
  | k + 1, n, .rangeFunc .., st0, st, e, st', hdr, h, hgo => by cases n <;> exact (T.bad_some h).elim
  | k + 1, n, .exit .., st0, st, e, st', hdr, h, hgo => by cases n <;> exact (T.bad_some h).elim
  | k + 1, n, .scope .., st0, st, e, st', hdr, h, hgo => by cases n <;> exact (T.bad_some h).elim
  | k + 1, n, .label .., st0, st, e, st', hdr, h, hgo => by cases n <;> exact (T.bad_some h).elim
  | k + 1, n, .goto .., st0, st, e, st', hdr, h, hgo => by cases n <;> exact (T.bad_some h).elim
  | k + 1, n, .ret, st0, st, e, st', hdr, h, hgo => by cases n <;> exact (T.bad_some h).elim
  | k + 1, n, .refuse .., st0, st, e, st', hdr, h, hgo => by cases n <;> exact (T.bad_some h).elim

theorem iter_ok {c : Code} (hdr : DrOk G F c) : ∀ (k n : Nat) (st0 st : St) (m : Nat) (e : Exit) (st' : St), (ev G n F N (iterC c k) st0).res = some (.normal, st) → Rounds P N c m st e st' → Rounds P N c (m + k) st0 e st'
  | 0, n, st0, st, m, e, st', h, hgo => by
    cases n with
    | zero => exact (T.bad_some h).elim
    | succ n =>
      have := T.ret_some h
      simp only [Prod.mk.injEq, true_and] at this
      subst this
      exact hgo
  | k + 1, n, st0, st, m, e, st', h, hgo => by
    cases n with
    | zero => exact (T.bad_some h).elim
    | succ n =>
      simp only [iterC, ev] at h
      obtain ⟨⟨e1, st1⟩, h1, h2⟩ := T.bind_some h
      cases e1 with
      | exit id => have := T.ret_some h2; simp at this
      | ret => have := T.ret_some h2; simp at this
      | normal => exact Rounds.more (ev_ok hG hK n F N c st0 .normal st1 hdr h1).trip (iter_ok hdr k n st1 st m e st' h2 hgo)

/-- the first statements of a code -/
theorem pieceT (hsym : G.sym = false) {k n : Nat} {c : Code} {ts bs : List Nat} {st0 st1 st : St} {e : Exit} (hdr : DrOk G F c)
    (h : keepOnly N ts bs (fev G n F (kc G F N (cutC k c)) st0) = .ret (.normal, st1)) (hgo : Trip P N (restC k c) st1 e st) : Trip P N c st0 e st := by
  rw [fev_eq hsym] at h
  obtain ⟨st2, h1, h2⟩ := keepOnly_ok h
  exact cutT_ok hG hK k n c st0 st2 e st hdr h1 (hgo.lessL h2)

/-- a few rounds of a loop -/
theorem pieceR (hsym : G.sym = false) {k n m : Nat} {c : Code} {ts bs : List Nat} {st0 st1 st : St} {e : Exit} (hdr : DrOk G F c)
    (h : keepOnly N ts bs (fev G n F (kc G F N (iterC c k)) st0) = .ret (.normal, st1)) (hgo : Rounds P N c m st1 e st) : Rounds P N c (m + k) st0 e st := by
  rw [fev_eq hsym] at h
  obtain ⟨st2, h1, h2⟩ := keepOnly_ok h
  exact iter_ok hG hK hdr k n st0 st2 m e st h1 (hgo.lessL h2)

/-- its last round -/
theorem endR (hsym : G.sym = false) {n id : Nat} {c : Code} {ts bs : List Nat} {st0 st1 : St} (hdr : DrOk G F c)
    (h : keepOnly N ts bs (fev G n F (kc G F N c) st0) = .ret (.exit id, st1)) : Rounds P N c 1 st0 (.exit id) st1 := by
  rw [fev_eq hsym] at h
  obtain ⟨st2, h1, h2⟩ := keepOnly_ok h
  exact Rounds.last (by simp) ((ev_ok hG hK n F N c st0 (.exit id) st2 hdr h1).trip.less h2)

/-- a code's end -/
theorem endT (hsym : G.sym = false) {n : Nat} {c : Code} {ts bs : List Nat} {st0 st1 : St} (hdr : DrOk G F c)
    (h : keepOnly N ts bs (fev G n F (kc G F N c) st0) = .ret (.ret, st1)) : Trip P N c st0 .ret st1 := by
  rw [fev_eq hsym] at h
  obtain ⟨st2, h1, h2⟩ := keepOnly_ok h
  exact (ev_ok hG hK n F N c st0 .ret st2 hdr h1).trip.less h2

omit hK in
/-- a call -/
theorem callOf {g : Nat} {fn : Func} {c : Code} {args : List AV} {hp : List (Nat × Ob)} {nx : Nat} {st : St} {l : List AV} (hg : G.fi g = some fn) (hb : fn.body = some c) (hle : args.length ≤ fn.ntmps)
    (h : Trip P fn.ntmps c ⟨argSlots 0 args (Slots.none fn.ntmps), mkH hp, nx, true, 0, []⟩ .ret st) (hl : resultsOf G st fn.results.toList = .ret l) : CallTo P g args (mkH hp) nx ⟨outV l, st.H, st.nx, true, []⟩ := by
  intro f z w vs hrel hargs R hR
  obtain ⟨hf1, _, _⟩ := hG.fi g fn hg
  have hsz : args.length = vs.size := by simpa using hargs.1
  refine calls_of_wp hf1 hb ?_
  refine h f z w _ (argSlots_TR hargs _ _) hrel (by simp; omega) rfl _ fun f' z' w' a' hpost htr hN hd => ?_
  obtain ⟨v, hv1, hv2⟩ := results_ok hG htr hpost.all (l := l) (by rw [hl]; rfl)
  exact ⟨hd, v, hv1, hR f' z' w' v hpost hv2⟩

end
end Go.Proofs.YtpidkmegakdohaaGreat.Kn
