/- Texts put together: F15, F16, F17, F18, OA. -/
import Derived.Test.YtbobakclbdaepaaGreatG22
/- The engine, part 38: 'for k, v := range m', known by its rounds. -/
namespace Go.Proofs.YtbobakclbdaepaaGreat.En
open Go
open Go.ChangeMaps (setBlock)
set_option linter.unusedVariables false
set_option linter.unusedSimpArgs false

/-- the statement's code -/
abbrev rgCode (id0 jb id1 kb id2 : Nat) (o0 o1 o2 o3 : Oper) (c3 : Operand) (ops2 : Array Oper) (rest : Code) : Code :=
  .seq (.region id0 #[o0, o1] false) (.block jb (.loop (.seq (.region id1 #[o2, o3] false) (.seq (.cond c3 .skip (.exit jb)) (.block kb (.seq (.region id2 ops2 false) rest))))))

theorem wanted_none {o : Oper} (h : o.guard = none) (y : Nat → Option Bool) : Region.wanted o y = true := by simp [Region.wanted, h]

theorem Rel.part {f : Fn} {nx : Nat} {z : Z} {w : World} {H : Heap} (h : Rel All f nx z w H) (p : Nat → Bool) : Rel All f nx z w (H.filter fun e => p e.1) := by
  have hg : ∀ b, (Heap.get (H.filter fun e => p e.1) b).live → Heap.get (H.filter fun e => p e.1) b = H.get b ∧ p b = true := fun b hl => by
    rw [get_filter p] at hl ⊢
    by_cases hb : p b = true
    · rw [if_pos hb]; exact ⟨rfl, hb⟩
    · rw [if_neg hb] at hl; exact hl.elim
  refine ⟨fun b _ hl => ?_, fun b c _ _ hl hl' hne => ?_, h.zok⟩
  · obtain ⟨e, _⟩ := hg b hl
    rw [e] at hl ⊢
    exact h.own b trivial hl
  · obtain ⟨e, _⟩ := hg b hl
    obtain ⟨e', _⟩ := hg c hl'
    rw [e] at hl
    rw [e'] at hl'
    exact h.inj b c trivial trivial hl hl' hne

section
variable {P : Program} {G : Ctx} (hG : CtxOk P G) (hK : KnownOk P G)
include hG hK

theorem map_range {K F N mb id0 jb id1 kb id2 : Nat} {T kt et : Nat} {o0 o1 o2 o3 o4 : Oper} {x0 : Operand} {d0 d1 d2 d3 d4 : Nat} {ops2 : Array Oper} {l : List Oper} {rest : Code}
    (h0 : o0.op = .move x0 ∧ o0.dst = some d0 ∧ o0.guard = none) (h1 : o1.op = .range T (.tmp d0) ∧ o1.dst = some d1 ∧ o1.guard = none)
    (h2 : o2.op = .next (.tmp d1) false ∧ o2.dst = some d2 ∧ o2.guard = none) (h3 : o3.op = .extract (.tmp d2) 0 ∧ o3.dst = some d3 ∧ o3.guard = none)
    (h4 : o4.op = .entry (.tmp d1) ∧ o4.dst = some d4 ∧ o4.guard = none) (hops : ops2.toList = o4 :: l)
    (hd : d0 < N ∧ d1 < N ∧ d2 < N ∧ d3 < N ∧ d4 < N) (hne : d2 ≠ d1 ∧ d3 ≠ d1) (hT : P.underlying T = some (.map kt et))
    {A : Type} (S : Nat → A → St) (Inv : List (Value × Value) → A → Prop) (live : List Nat) (ids : List Nat) {Sfin st0 : St} {es : List (Value × Value)} {a0 : A}
    (hx : st0.val x0 = .v (.one (.mp mb))) (hes : st0.H.get mb = .map es) (hone : ∀ p ∈ es, p.1.oneCell' = true ∧ p.2.oneCell' = true) (hesc0 : st0.esc = false)
    (hmb : mb ∉ ids) (hids : ∀ b, (st0.H.get b).live → b = mb ∨ b ∈ ids)
    (hS : ∀ r a, st0.nx ≤ (S r a).nx ∧ (S r a).esc = false ∧ (S r a).sl.get d1 = itV r ∧ (S r a).sl.get d2 = .top ∧ (S r a).sl.get d3 = .top)
    (h00 : ∀ r, StLe st0.nx ⟨(d1, itV r) :: (d0, .top) :: st0.sl, st0.H.filter (fun e => ids.any (Nat.beq e.1)), st0.nx, false, 0, []⟩ (S r a0))
    (hI0 : Inv es a0)
    (hround : ∀ r a left1 left2 p, p ∈ es → Inv (left1 ++ p :: left2) a → ∃ s a', (evRR G K F N ops2.toList l rest kb st0.nx live ((S r a).put (some d4) (.tup [.one (.f (.lit p.1)), .one (.f (.lit p.2))]))).res = some (.normal, s) ∧ StLe st0.nx s (S r a') ∧ Inv (left1 ++ left2) a')
    (hend : ∀ r a, Inv [] a → StLe st0.nx (S r a) Sfin) (hfin : Sfin.esc = false) :
    CodeOk P N (rgCode id0 jb id1 kb id2 o0 o1 o2 o3 (.tmp d3) ops2 rest) st0 .normal ⟨Sfin.sl, Sfin.H ++ st0.H.filter (fun e => !(ids.any (Nat.beq e.1))), Sfin.nx, false, 0, []⟩ := by
  obtain ⟨p0, q0, g0⟩ := h0
  obtain ⟨p1, q1, g1⟩ := h1
  obtain ⟨p2, q2, g2⟩ := h2
  obtain ⟨p3, q3, g3⟩ := h3
  obtain ⟨p4, q4, g4⟩ := h4
  obtain ⟨n0, n1, n2, n3, n4⟩ := hd
  refine ⟨fun _ => hesc0, fun f z w a ht hr hN hdf Q hQ => ?_⟩
  have hX := val_ok ht x0
  rw [hx] at hX
  obtain ⟨hm0, hX⟩ := hX
  have hml : (st0.H.get mb).live := by rw [hes]; trivial
  obtain ⟨_, hok⟩ := hr.own mb trivial hml
  rw [hes] at hok
  obtain ⟨_, arr, clock, hw, he, hbo⟩ := hok.map es rfl
  -- the iterator is made
  refine wp_seq (wp_region ?_)
  show wpOps P #[o0, o1] _ [0, 1] a w
  simp only [wpOps]
  have i0 : (#[o0, o1] : Array Oper)[0]? = some o0 := rfl
  have i1 : (#[o0, o1] : Array Oper)[1]? = some o1 := rfl
  simp only [i0, i1, wanted_none g0, wanted_none g1, if_true]
  refine .inl (wp_value (v := .map (some (f mb).k)) (w' := w) ?_ ?_)
  · simp only [execOp, p0, hX]
    rfl
  have e0 : (a.put o0.dst (.map (some (f mb).k))).eval (.tmp d0) = .map (some (f mb).k) := by
    simp only [q0, Act.put, Act.eval]
    rw [Array.getD_eq_getD_getElem?, Array.getElem?_setIfInBounds_self_of_lt (by omega)]
    rfl
  refine .inl (wp_value (v := .pointer (some ⟨w.heap.size, 0, none⟩)) (w' := w.alloc (.mapIter (some (f mb).k) clock #[] clock)) ?_ ?_)
  · simp only [execOp, p1]
    refine run_v ?_
    rw [e0]
    exact run_range_map w T kt et (f mb).k arr clock hT hw
  generalize ha2 : (a.put o0.dst (.map (some (f mb).k))).put o1.dst (.pointer (some ⟨w.heap.size, 0, none⟩)) = a2
  have ht2 : TR f st0.nx z ((d1, itV w.heap.size) :: (d0, .top) :: st0.sl) a2.tmps := by
    rw [← ha2, q0, q1]
    simp only [Act.put]
    exact (ht.put (x := .top) (by omega) trivial).put (by rw [Array.size_setIfInBounds]; omega) (.lit _ rfl)
  have hN2 : a2.tmps.size = N := by rw [← ha2, q0, q1]; simp only [Act.put, Array.size_setIfInBounds]; exact hN
  have hd2 : a2.defers = [] := by rw [← ha2, q0, q1]; exact hdf
  -- the part without the map
  have hrp := hr.part fun b => ids.any (Nat.beq b)
  have hpa := Post.alloc0 hrp (.mapIter (some (f mb).k) clock #[] clock)
  have hkr : (f mb).k < w.heap.size := hok.lt
  have hinH : ∀ b, (Heap.get (st0.H.filter fun e => ids.any (Nat.beq e.1)) b).live → b ≠ mb ∧ (st0.H.get b).live := fun b hl => by
    rw [get_filter (fun b => ids.any (Nat.beq b))] at hl
    by_cases hb : ids.any (Nat.beq b) = true
    · rw [if_pos hb] at hl
      exact ⟨fun e => hmb (e ▸ (anyBeq ids b).1 hb), hl⟩
    · rw [if_neg hb] at hl; exact hl.elim
  have hit0 : It f (st0.H.filter fun e => ids.any (Nat.beq e.1)) (w.alloc (.mapIter (some (f mb).k) clock #[] clock)) (f mb).k w.heap.size arr clock clock #[] clock :=
    ⟨heap_alloc_new _ _, (heap_alloc_old w _ hkr).trans hw, hbo, Nat.le_refl _, Nat.le_refl _, fun b hl => by
      obtain ⟨hb1, hb2⟩ := hinH b hl
      have := (hr.own b trivial hb2).2.lt
      exact ⟨by omega, hr.inj b mb trivial trivial hb2 hml hb1⟩⟩
  obtain ⟨f1, z1, ht1, hp1⟩ := (h00 w.heap.size).to f z _ a2.tmps ht2 hpa.all
  have hP1 := (Post.trans' hpa hp1 (Nat.le_refl _)).weak (e' := false) fun _ => by rw [(hS w.heap.size a0).2.1]; rfl
  show (Code.block jb _).wp P Q a2 _
  refine wp_block ?_
  generalize hw1 : w.alloc (.mapIter (some (f mb).k) clock #[] clock) = w1 at *
  have hrs : w.heap.size < w1.heap.size := by rw [← hw1]; simp
  generalize hrr : w.heap.size = r at *
  generalize hkk : (f mb).k = k at *
  refine wp_loop_ghost (fun n a' w' => ∃ f' z' acc seen c0, n = (leftL arr seen).length ∧ Inv ((leftL arr seen).map kvE) acc ∧ TR f' (S r acc).nx z' (S r acc).sl a'.tmps ∧ a'.tmps.size = N ∧ a'.defers = [] ∧
    It f' (S r acc).H w' k r arr clock clock seen c0 ∧ Post All f st0.nx z w (st0.H.filter fun e => ids.any (Nat.beq e.1)) f' (S r acc).nx z' w' (S r acc).H false) (leftL arr #[]).length
    ⟨f1, z1, a0, #[], clock, rfl, ?_, ht1, hN2, hd2, hit0.post hp1, hP1⟩ ?_
  · have : leftL arr #[] = arr.toList := List.filter_eq_self.2 fun x _ => by simp
    rw [this]
    show Inv (arr.toList.map fun e => (e.key, e.val)) a0
    rw [he]; exact hI0
  rintro n a' w' ⟨f', z', acc, seen, c0, hn, hI, ht', hN', hd', hit, hP⟩
  have hSr := hS r acc
  have hitv : a'.eval (.tmp d1) = .pointer (some ⟨r, 0, none⟩) := by
    have := ht' d1
    rw [hSr.2.2.1] at this
    exact lit_ok this
  have hzr : ∀ o v, z' r o ≠ some v := fun o v hv => by
    have := hP.rel.zok r o v hv
    rw [cell_mapIter hit.it] at this
    cases this
  refine wp_seq (wp_region ?_)
  show wpOps P #[o2, o3] _ [0, 1] a' w'
  simp only [wpOps]
  have i2 : (#[o2, o3] : Array Oper)[0]? = some o2 := rfl
  have i3 : (#[o2, o3] : Array Oper)[1]? = some o3 := rfl
  simp only [i2, i3, wanted_none g2, wanted_none g3, if_true]
  have hput : ∀ (v2 v3 : Value), ((a'.put o2.dst v2).put o3.dst v3).tmps = (a'.tmps.setIfInBounds d2 v2).setIfInBounds d3 v3 ∧ ((a'.put o2.dst v2).put o3.dst v3).defers = [] := fun v2 v3 => by
    rw [q2, q3]
    exact ⟨rfl, hd'⟩
  have hev2 : ∀ v2 : Value, (a'.put o2.dst v2).eval (.tmp d2) = v2 := fun v2 => by
    simp only [q2, Act.put, Act.eval]
    rw [Array.getD_eq_getD_getElem?, Array.getElem?_setIfInBounds_self_of_lt (by omega)]
    rfl
  have hev3 : ∀ v2 v3 : Value, ((a'.put o2.dst v2).put o3.dst v3).eval (.tmp d3) = v3 := fun v2 v3 => by
    simp only [q2, q3, Act.put, Act.eval]
    rw [Array.getD_eq_getD_getElem?, Array.getElem?_setIfInBounds_self_of_lt (by rw [Array.size_setIfInBounds]; omega)]
    rfl
  have htp : ∀ v2 v3 : Value, TR f' (S r acc).nx z' (S r acc).sl ((a'.put o2.dst v2).put o3.dst v3).tmps := fun v2 v3 => by
    rw [(hput v2 v3).1]
    exact (ht'.skip hSr.2.2.2.1 v2).skip hSr.2.2.2.2 v3
  have hNp : ∀ v2 v3 : Value, ((a'.put o2.dst v2).put o3.dst v3).tmps.size = N := fun v2 v3 => by
    rw [(hput v2 v3).1]
    simp only [Array.size_setIfInBounds]; exact hN'
  rcases run_next_at (P := P) w' 0 r k clock c0 seen arr clock hit.it hit.mp hit.born.1 hit.sc with ⟨hz, hrun⟩ | ⟨e, he2, w2, hw2, hrun⟩
  · -- nothing is left
    have hleft : leftL arr seen = [] := by
      have : leftOf arr seen = #[] := Array.eq_empty_of_size_eq_zero hz
      unfold leftL
      have h9 := congrArg Array.toList this
      simpa [leftOf] using h9
    refine .inl (wp_value (v := .tuple #[.bool false]) (w' := w') ?_ ?_)
    · simp only [execOp, p2]
      refine run_v ?_
      rw [hitv]
      exact hrun
    refine .inl (wp_value (v := .bool false) (w' := w') ?_ ?_)
    · simp only [execOp, p3]
      refine run_v ?_
      rw [hev2]
      rfl
    show (Code.seq _ _).wp P _ _ _
    refine wp_seq (wp_cond_false (hev3 _ _) (wp_exit ?_))
    show Exit.inBlock jb Q (.exit jb) _ _
    simp only [Exit.inBlock, if_true]
    rw [hleft] at hI
    obtain ⟨f2, z2, ht2', hp2⟩ := (hend r acc hI).to f' z' w' _ (htp (.tuple #[.bool false]) (.bool false)) hP.all
    have hP2 := (Post.trans' hP hp2 (Nat.le_refl _)).weak (e' := false) fun _ => by rw [hfin]; rfl
    have hpp := Post.part ids hr.noLive hP2
    exact hQ f2 z2 w' _ (Post.lift hr hpp) ht2' (hNp _ _) (hput _ _).2
  · -- one comes out
    have he3 : e ∈ leftL arr seen := by
      unfold leftL
      simpa [leftOf] using he2
    have hea : e ∈ arr.toList := (List.mem_filter.1 he3).1
    have hw2h : w2.heap = w'.heap ∧ w2.os = w'.os ∧ w2.tape = w'.tape ∧ w2.output = w'.output := by rcases hw2 with rfl | rfl <;> exact ⟨rfl, rfl, rfl, rfl⟩
    generalize hw3 : setBlock w2 r (.mapIter (some k) clock (seen.push e.born) clock) = w3 at *
    have hb3 : ∀ x, x ≠ r → w3.heap[x]? = w'.heap[x]? := fun x hx => by
      rw [← hw3]
      simp only [setBlock, hw2h.1]
      rw [Array.getElem?_setIfInBounds_ne (Ne.symm hx)]
    have hs3 : w3.heap.size = w'.heap.size := by rw [← hw3]; simp [setBlock, hw2h.1]
    have hrlt : r < w'.heap.size := lt_of_some hit.it
    have hkne : k ≠ r := fun e9 => by
      have h8 := hit.it
      rw [← e9, hit.mp] at h8
      cases h8
    have hr3 : w3.heap[r]? = some (.mapIter (some k) clock (seen.push e.born) clock) := by
      rw [← hw3]
      simp only [setBlock, hw2h.1]
      rw [Array.getElem?_setIfInBounds_self_of_lt hrlt]
    have hm3 : w3.heap[k]? = some (.map arr clock) := (hb3 k hkne).trans hit.mp
    have hP3 : Post All f st0.nx z w (st0.H.filter fun e => ids.any (Nat.beq e.1)) f' (S r acc).nx z' w3 (S r acc).H false :=
      hP.other (by omega) hs3 (by rw [← hw3]; exact hw2h.2.1) (by rw [← hw3]; exact hw2h.2.2.1) (by rw [← hw3]; exact hw2h.2.2.2) hb3 (fun b hl => (hit.free b hl).1) hzr
    have hit3 : It f' (S r acc).H w3 k r arr clock clock (seen.push e.born) clock := ⟨hr3, hm3, hit.born, Nat.le_refl _, Nat.le_refl _, hit.free⟩
    refine .inl (wp_value (v := .tuple #[.bool true, e.key, e.val]) (w' := w3) ?_ ?_)
    · simp only [execOp, p2]
      refine run_v ?_
      rw [hitv]
      exact hrun
    refine .inl (wp_value (v := .bool true) (w' := w3) ?_ ?_)
    · simp only [execOp, p3]
      refine run_v ?_
      rw [hev2]
      rfl
    show (Code.seq _ _).wp P _ _ _
    refine wp_seq (wp_cond_true (hev3 _ _) (wp_skip ?_))
    show (Code.block kb _).wp P _ _ _
    refine wp_block (wp_seq (wp_region ?_))
    have hsz : List.range ops2.size = 0 :: List.range' 1 l.length := by
      have : ops2.size = l.length + 1 := by rw [← Array.length_toList, hops]; rfl
      rw [this, List.range_eq_range', List.range'_succ]
    rw [hsz]
    have i4 : ops2[0]? = some o4 := by rw [← Array.getElem?_toList, hops]; rfl
    simp only [wpOps, i4, wanted_none g4, if_true]
    have hitv2 : ((a'.put o2.dst (.tuple #[.bool true, e.key, e.val])).put o3.dst (.bool true)).eval (.tmp d1) = .pointer (some ⟨r, 0, none⟩) := by
      have := htp (.tuple #[.bool true, e.key, e.val]) (.bool true) d1
      rw [hSr.2.2.1] at this
      exact lit_ok this
    refine .inl (wp_value (v := .tuple #[e.key, e.val]) (w' := w3) ?_ ?_)
    · simp only [execOp, p4]
      refine run_v ?_
      rw [hitv2]
      exact run_entry_at w3 r k clock seen arr clock e hr3 hm3 hea hit.born.2
    obtain ⟨l1, l2, hl1, hl2⟩ := left_push hit.born he3
    have hpe : kvE e ∈ es := by rw [← he]; exact List.mem_map.2 ⟨e, hea, rfl⟩
    rw [hl1, List.map_append, List.map_cons] at hI
    obtain ⟨s, acc', hs1, hs2, hs3'⟩ := hround r acc (l1.map kvE) (l2.map kvE) (kvE e) hpe hI
    obtain ⟨s0, hs4, hs5⟩ := evRR_some hs1
    obtain ⟨c1, c2⟩ := evRest_ok hG hK hops hs4
    obtain ⟨o1', o2'⟩ := hone _ hpe
    have hty : TR f' ((S r acc).put (some d4) (.tup [.one (.f (.lit (kvE e).1)), .one (.f (.lit (kvE e).2))])).nx z' ((S r acc).put (some d4) (.tup [.one (.f (.lit (kvE e).1)), .one (.f (.lit (kvE e).2))])).sl
        (((a'.put o2.dst (.tuple #[.bool true, e.key, e.val])).put o3.dst (.bool true)).put o4.dst (.tuple #[e.key, e.val])).tmps := by
      rw [q4]
      refine (htp _ _).put (by rw [hNp]; omega) ?_
      exact ⟨#[e.key, e.val], rfl, .cons (.lit _ o1') (.cons (.lit _ o2') .nil)⟩
    refine c2 f' z' w3 _ hty hP3.all (by rw [q4]; simp only [Act.put, Array.size_setIfInBounds]; exact hNp _ _) (by rw [q4]; exact (hput _ _).2) _ fun f5 z5 w5 a5 hp5 ht5 hN5 hd5 => ?_
    show Exit.then _ _ .normal a5 w5
    obtain ⟨f6, z6, ht6, hp6⟩ := hs5.to f5 z5 w5 a5.tmps ht5 hp5.all
    obtain ⟨f7, z7, ht7, hp7⟩ := hs2.to f6 z6 w5 a5.tmps ht6 hp6.all
    refine ⟨(leftL arr (seen.push e.born)).length, ?_, f7, z7, acc', seen.push e.born, clock, rfl, ?_, ht7, hN5, hd5, ((hit3.post hp5).post hp6).post hp7, ?_⟩
    · rw [hn, hl1, hl2]
      simp
    · rw [hl2, List.map_append]
      exact hs3'
    · refine (Post.trans' (Post.trans' (Post.trans hP3 hp5) hp6 (Nat.le_refl _)) hp7 (Nat.le_refl _)).weak fun _ => ?_
      have g7 := (hS r acc').2.1
      have g6 := hs2.esc g7
      have g5 := hs5.esc g6
      rw [g7, g6, g5]
      rfl

end

end Go.Proofs.YtbobakclbdaepaaGreat.En
/- The engine, part 39: the statement 'for k, v := range m' of a function, taken apart. -/
namespace Go.Proofs.YtbobakclbdaepaaGreat.En
open Go
set_option linter.unusedVariables false

/-- the statement that begins with this region -/
def seqAt : Code → Nat → Option Code
  | .seq a b, id => match (match rid0 a with | some k => Nat.beq k id | none => false) with
    | true => some (.seq a b)
    | false => match seqAt a id with | some c => some c | none => seqAt b id
  | .cond _ a b, id => match seqAt a id with | some c => some c | none => seqAt b id
  | .block _ c, id => seqAt c id
  | .loop c, id => seqAt c id
  | .scope c, id => seqAt c id
  | _, _ => none
def seqOf (f : Func) (id : Nat) : Code := match f.body with
  | some c => (seqAt c id).getD .skip
  | none => .skip
def rgHead : Code → Array Oper × Array Oper × Array Oper × Code
  | .seq (.region _ a _) (.block _ (.loop (.seq (.region _ b _) (.seq _ (.block _ (.seq (.region _ c _) rest)))))) => (a, b, c, rest)
  | _ => (#[], #[], #[], .skip)
def rgO (c : Code) : Nat → Oper
  | 0 => (rgHead c).1.toList.getD 0 default
  | 1 => (rgHead c).1.toList.getD 1 default
  | 2 => (rgHead c).2.1.toList.getD 0 default
  | 3 => (rgHead c).2.1.toList.getD 1 default
  | _ => (rgHead c).2.2.1.toList.getD 0 default
def rgOps (c : Code) : Array Oper := (rgHead c).2.2.1
def rgTail (c : Code) : List Oper := (rgHead c).2.2.1.toList.tail
def rgRest (c : Code) : Code := (rgHead c).2.2.2
/-- a round -/
def evRg (G : Ctx) (K F N : Nat) (c : Code) (kb d4 m : Nat) (live : List Nat) (st : St) (p : Value × Value) : T (Ex × St) :=
  evRR G K F N (rgOps c).toList (rgTail c) (rgRest c) kb m live (st.put (some d4) (.tup [.one (.f (.lit p.1)), .one (.f (.lit p.2))]))

/-- what a slot says less of -/
theorem get_skip {d : Nat} {v : SV} {sl sl' : Slots} (h : sl'.get d = .top) (he : ∀ t, t ≠ d → sl.get t = sl'.get t) : ∀ t, (Slots.get ((d, v) :: sl) t).le (sl'.get t) := fun t => by
  by_cases e : d = t
  · subst e; rw [h]; exact .inl rfl
  · rw [Slots.get_cons, if_neg e, he t (Ne.symm e)]; exact .inr (.inl rfl)

end Go.Proofs.YtbobakclbdaepaaGreat.En
/- The engine, part 40: what a code comes to, told by a set of states. -/
namespace Go.Proofs.YtbobakclbdaepaaGreat.En
open Go
open Go.ChangeMaps (setBlock)
set_option linter.unusedVariables false
set_option linter.unusedSimpArgs false

theorem Fr.on {S : Nat → Prop} {f f' : Fn} {nx nx' : Nat} {z z' : Z} {w0 w w' : World} {H H' : Heap} {e : Bool} (h : Fr (fun _ => False) w0 w) (hn : ∀ b, (H.get b).live → w0.heap.size ≤ (f b).k) (hp : Post S f nx z w H f' nx' z' w' H' e) : Fr (fun _ => False) w0 w' :=
  h.trans hp.fr fun x hx ⟨b, _, hl, hb⟩ => by have := hn b hl; omega

theorem Post.new {f f' : Fn} {nx nx' : Nat} {z z' : Z} {w0 w w' : World} {H H' : Heap} {e : Bool} (h : Fr (fun _ => False) w0 w) (hn : ∀ b, (H.get b).live → w0.heap.size ≤ (f b).k) (hp : Post All f nx z w H f' nx' z' w' H' e) : ∀ b, (H'.get b).live → w0.heap.size ≤ (f' b).k := fun b hl => by
  rcases Nat.lt_or_ge b nx with h1 | h1
  · rw [hp.ext b h1]
    exact hn b (hp.dead b h1 hl)
  · rcases hp.fresh b h1 hl with h2 | ⟨c, _, hc, h3⟩
    · exact Nat.le_trans h.size h2
    · rw [← h3]; exact hn c hc

/-- how a state stands for a run's, begun in w0 -/
structure Sit (N : Nat) (w0 : World) (st : St) (f : Fn) (z : Z) (w : World) (a : Act) : Prop where
  tr : TR f st.nx z st.sl a.tmps
  rel : Rel All f st.nx z w st.H
  size : a.tmps.size = N
  defers : a.defers = []
  fr : Fr (fun _ => False) w0 w
  new : ∀ b, (st.H.get b).live → w0.heap.size ≤ (f b).k

/-- however it runs, it ends in one of these states -/
def HT (P : Program) (N : Nat) (c : Code) (st : St) (R : Ex → St → Prop) : Prop :=
  ∀ w0 f z w a, Sit N w0 st f z w a → ∀ Q : Exit → Act → World → Prop, (∀ e st' f' z' w' a', R e st' → Sit N w0 st' f' z' w' a' → Q (exitOf e) a' w') → c.wp P Q a w

theorem Sit.post {N : Nat} {w0 : World} {st st' : St} {f f' : Fn} {z z' : Z} {w w' : World} {a a' : Act} {m : Nat} {e : Bool} (h : Sit N w0 st f z w a) (hm : m ≤ st.nx) (hp : Post All f m z w st.H f' st'.nx z' w' st'.H e)
    (ht : TR f' st'.nx z' st'.sl a'.tmps) (hN : a'.tmps.size = N) (hd : a'.defers = []) : Sit N w0 st' f' z' w' a' :=
  ⟨ht, hp.all, hN, hd, Fr.on h.fr h.new hp, Post.new h.fr h.new hp⟩

theorem Sit.le {N : Nat} {w0 : World} {st st' : St} {f : Fn} {z : Z} {w : World} {a : Act} {m : Nat} (h : Sit N w0 st f z w a) (hle : StLe m st st') : ∃ f' z', Sit N w0 st' f' z' w a := by
  obtain ⟨f', z', ht, hp⟩ := hle.to f z w a.tmps h.tr h.rel
  exact ⟨f', z', ht, hp.all, h.size, h.defers, Fr.on h.fr h.new hp, Post.new h.fr h.new hp⟩

section
variable {P : Program} {N : Nat}

theorem HT.of {c : Code} {st st' : St} {e : Ex} {R : Ex → St → Prop} (h : CodeOk P N c st e st') (hR : R e st') : HT P N c st R :=
  fun w0 f z w a s Q hQ => h.2 f z w a s.tr s.rel s.size s.defers Q fun f' z' w' a' hp ht hN hd => hQ e st' f' z' w' a' hR (s.post (Nat.le_refl _) hp ht hN hd)

theorem HT.mono {c : Code} {st : St} {R R' : Ex → St → Prop} (h : HT P N c st R) (hR : ∀ e s, R e s → ∃ m s', StLe m s s' ∧ R' e s') : HT P N c st R' :=
  fun w0 f z w a s Q hQ => h w0 f z w a s Q fun e st' f' z' w' a' hr s' => by
    obtain ⟨m, s2, hle, h2⟩ := hR e st' hr
    obtain ⟨f2, z2, s3⟩ := s'.le hle
    exact hQ e s2 f2 z2 w' a' h2 s3

theorem HT.weak {c : Code} {st : St} {R R' : Ex → St → Prop} (h : HT P N c st R) (hR : ∀ e s, R e s → R' e s) : HT P N c st R' :=
  fun w0 f z w a s Q hQ => h w0 f z w a s Q fun e st' f' z' w' a' hr s' => hQ e st' f' z' w' a' (hR e st' hr) s'

theorem HT.pre {c : Code} {st st1 : St} {R : Ex → St → Prop} {m : Nat} (hle : StLe m st st1) (h : HT P N c st1 R) : HT P N c st R :=
  fun w0 f z w a s Q hQ => by
    obtain ⟨f1, z1, s1⟩ := s.le hle
    exact h w0 f1 z1 w a s1 Q hQ

theorem HT.seq {x y : Code} {st : St} {R1 R : Ex → St → Prop} (hx : HT P N x st R1) (hy : ∀ s, R1 .normal s → HT P N y s R) (he : ∀ e s, e ≠ .normal → R1 e s → R e s) : HT P N (.seq x y) st R :=
  fun w0 f z w a s Q hQ => wp_seq (hx w0 f z w a s _ fun e st' f' z' w' a' hr s' => by
    cases e with
    | normal => exact hy st' hr w0 f' z' w' a' s' Q hQ
    | exit id => exact hQ (.exit id) st' f' z' w' a' (he _ _ (by simp) hr) s'
    | ret => exact hQ .ret st' f' z' w' a' (he _ _ (by simp) hr) s')

def unb (jb : Nat) : Ex → Ex
  | .exit k => if k = jb then .normal else .exit k
  | e => e

theorem HT.block {c : Code} {jb : Nat} {st : St} {R : Ex → St → Prop} (h : HT P N c st fun e s => R (unb jb e) s) : HT P N (.block jb c) st R :=
  fun w0 f z w a s Q hQ => wp_block (h w0 f z w a s _ fun e st' f' z' w' a' hr s' => by
    cases e with
    | normal => exact hQ .normal st' f' z' w' a' hr s'
    | ret => exact hQ .ret st' f' z' w' a' hr s'
    | exit k =>
      simp only [unb] at hr
      simp only [exitOf, Exit.inBlock]
      split
      · rename_i hk
        rw [if_pos hk] at hr
        exact hQ .normal st' f' z' w' a' hr s'
      · rename_i hk
        rw [if_neg hk] at hr
        exact hQ (.exit k) st' f' z' w' a' hr s')

/-- a loop: its states ahead of a round, what goes down -/
theorem HT.loop {c : Code} {α : Type} (S : α → St) (μ : α → Nat) (Inv : α → Prop) {R : Ex → St → Prop}
    (h : ∀ p, Inv p → HT P N c (S p) fun e s => (e = .normal ∧ ∃ m p', StLe m s (S p') ∧ Inv p' ∧ μ p' < μ p) ∨ (e ≠ .normal ∧ R e s)) {p : α} (hI : Inv p) {st0 : St} {m : Nat} (h0 : StLe m st0 (S p)) : HT P N (.loop c) st0 R := by
  intro w0 f z w a s Q hQ
  obtain ⟨f1, z1, s1⟩ := s.le h0
  refine wp_loop_ghost (fun k a w => ∃ p, μ p = k ∧ Inv p ∧ ∃ f z, Sit N w0 (S p) f z w a) (μ p) ⟨p, rfl, hI, f1, z1, s1⟩ ?_
  rintro k a w ⟨p, rfl, hI, f, z, s⟩
  refine h p hI w0 f z w a s _ fun e st' f' z' w' a' hr s' => ?_
  rcases hr with ⟨rfl, m, p', hle, hI', hlt⟩ | ⟨hne, hr⟩
  · obtain ⟨f2, z2, s2⟩ := s'.le hle
    exact ⟨μ p', hlt, p', rfl, hI', f2, z2, s2⟩
  · have := hQ e st' f' z' w' a' hr s'
    cases e with
    | normal => exact absurd rfl hne
    | exit id => exact this
    | ret => exact this

/-- the first k statements; what is behind them -/
def evCut (G : Ctx) (K F N : Nat) : Nat → Code → St → T (Ex × St)
  | 0, _, st => .ret (.normal, st)
  | k + 1, .seq a b, st => (ev G noLive K F N a st).bind fun x => match x.1 with
    | .normal => evCut G K F N k b x.2
    | e => .ret (e, x.2)
  | _ + 1, _, _ => .bad
def bodyOf (f : Func) : Code := match f.body with | some c => c | none => .skip
def restC : Nat → Code → Code
  | 0, c => c
  | k + 1, .seq _ b => restC k b
  | _ + 1, c => c
/-- they, and their blocks named anew -/
def evCutR (G : Ctx) (K F N : Nat) (k : Nat) (c : Code) (m : Nat) (live after : List Nat) (st : St) : T (Ex × St) :=
  (evCut G K F N k c st).bind fun x => match canonSt m (match x.1 with | .normal => live | _ => after) x.2 with
    | some s => .ret (x.1, s)
    | none => .bad
theorem evCutR_some {G : Ctx} {K F N k : Nat} {c : Code} {m : Nat} {live after : List Nat} {st : St} {e : Ex} {s : St} (h : (evCutR G K F N k c m live after st).res = some (e, s)) :
    ∃ st1, (evCut G K F N k c st).res = some (e, st1) ∧ StLe m st1 s := by
  unfold evCutR at h
  obtain ⟨⟨e1, st1⟩, h1, h2⟩ := T.bind_some h
  simp only at h2
  split at h2
  · rename_i s1 hs
    have := T.ret_some h2
    simp only [Prod.mk.injEq] at this
    obtain ⟨rfl, rfl⟩ := this
    exact ⟨st1, h1, canonSt_ok hs⟩
  · exact (T.bad_some h2).elim

variable {G : Ctx} (hG : CtxOk P G) (hK : KnownOk P G)
include hG hK

theorem HT.ev {n F : Nat} {c : Code} {st st' : St} {e : Ex} {R : Ex → St → Prop} (h : (ev G noLive n F N c st).res = some (e, st')) (hR : R e st') : HT P N c st R := HT.of (ev_ok hG hK n F N c st e st' h) hR

theorem HT.round {n F : Nat} {c : Code} {m : Nat} {live after : List Nat} {st st' : St} {e : Ex} {R : Ex → St → Prop} (h : (evRound G n F N c m live after st).res = some (e, st')) (hR : R e st') : HT P N c st R := by
  obtain ⟨st1, h1, h2⟩ := evRound_some h
  exact (HT.ev hG hK (R := fun e1 s1 => e1 = e ∧ s1 = st1) h1 ⟨rfl, rfl⟩).mono fun e1 s1 ⟨he, hs⟩ => by subst he hs; exact ⟨m, st', h2, hR⟩

/-- the first k statements by the evaluator; the rest by what is told of it -/
theorem HT.cut {n F : Nat} {R : Ex → St → Prop} : ∀ (k : Nat) (c : Code) (st0 st : St) (e : Ex), (evCut G n F N k c st0).res = some (e, st) → (e = .normal → HT P N (restC k c) st R) → (e ≠ .normal → R e st) → HT P N c st0 R
  | 0, c, st0, st, e, h, h1, h2 => by
    have := T.ret_some h
    simp only [Prod.mk.injEq] at this
    obtain ⟨rfl, rfl⟩ := this
    exact h1 rfl
  | k + 1, .seq x y, st0, st, e, h, h1, h2 => by
    obtain ⟨⟨e1, st1⟩, h3, h4⟩ := T.bind_some h
    cases e1 with
    | normal =>
      have hy := HT.cut (n := n) (F := F) (R := R) k y st1 st e h4 h1 h2
      exact HT.seq (HT.ev hG hK (R := fun e1 s1 => e1 = .normal ∧ s1 = st1) h3 ⟨rfl, rfl⟩) (fun s ⟨_, hs⟩ => hs ▸ hy) fun e s hne ⟨he, _⟩ => absurd he hne
    | exit id =>
      have := T.ret_some h4
      simp only [Prod.mk.injEq] at this
      obtain ⟨rfl, rfl⟩ := this
      exact HT.seq (HT.ev hG hK (R := fun e1 s1 => e1 = .exit id ∧ s1 = st1) h3 ⟨rfl, rfl⟩) (fun s ⟨hs, _⟩ => by cases hs) fun e s hne ⟨he, hs⟩ => by subst he hs; exact h2 (by simp)
    | ret =>
      have := T.ret_some h4
      simp only [Prod.mk.injEq] at this
      obtain ⟨rfl, rfl⟩ := this
      exact HT.seq (HT.ev hG hK (R := fun e1 s1 => e1 = .ret ∧ s1 = st1) h3 ⟨rfl, rfl⟩) (fun s ⟨hs, _⟩ => by cases hs) fun e s hne ⟨he, hs⟩ => by subst he hs; exact h2 (by simp)
  | k + 1, .skip, _, _, _, h, _, _ => (T.bad_some h).elim
  | k + 1, .region .., _, _, _, h, _, _ => (T.bad_some h).elim
  | k + 1, .cond .., _, _, _, h, _, _ => (T.bad_some h).elim
  | k + 1, .block .., _, _, _, h, _, _ => (T.bad_some h).elim
  | k + 1, .loop .., _, _, _, h, _, _ => (T.bad_some h).elim
  | k + 1, .rangeFunc .., _, _, _, h, _, _ => (T.bad_some h).elim
  | k + 1, .exit .., _, _, _, h, _, _ => (T.bad_some h).elim
  | k + 1, .scope .., _, _, _, h, _, _ => (T.bad_some h).elim
  | k + 1, .label .., _, _, _, h, _, _ => (T.bad_some h).elim
  | k + 1, .goto .., _, _, _, h, _, _ => (T.bad_some h).elim
  | k + 1, .ret, _, _, _, h, _, _ => (T.bad_some h).elim
  | k + 1, .refuse .., _, _, _, h, _, _ => (T.bad_some h).elim

/-- they, their blocks named anew -/
theorem HT.cutR {n F k : Nat} {c : Code} {m : Nat} {live after : List Nat} {R : Ex → St → Prop} {st0 st : St} {e : Ex} (h : (evCutR G n F N k c m live after st0).res = some (e, st)) (h1 : e = .normal → HT P N (restC k c) st R) (h2 : e ≠ .normal → R e st) : HT P N c st0 R := by
  obtain ⟨st1, h3, h4⟩ := evCutR_some h
  refine (HT.cut hG hK (n := n) (F := F) (R := fun e2 s2 => R e2 s2 ∨ (e2 ≠ .normal ∧ e2 = e ∧ s2 = st1)) k c st0 st1 e h3 (fun he => HT.weak (HT.pre h4 (h1 he)) fun _ _ h => .inl h) fun he => .inr ⟨he, rfl, rfl⟩).mono fun e2 s2 hr => ?_
  rcases hr with hr | ⟨hne, rfl, rfl⟩
  · exact ⟨s2.nx, s2, StLe.refl (Nat.le_refl _), hr⟩
  · exact ⟨m, st, h4, h2 hne⟩

end

section
variable {P : Program} {G : Ctx} (hG : CtxOk P G) (hK : KnownOk P G)
include hG hK

theorem map_rangeH {K F N mb id0 jb id1 kb id2 : Nat} {T kt et : Nat} {o0 o1 o2 o3 o4 : Oper} {x0 : Operand} {d0 d1 d2 d3 d4 : Nat} {ops2 : Array Oper} {l : List Oper} {rest : Code}
    (h0 : o0.op = .move x0 ∧ o0.dst = some d0 ∧ o0.guard = none) (h1 : o1.op = .range T (.tmp d0) ∧ o1.dst = some d1 ∧ o1.guard = none)
    (h2 : o2.op = .next (.tmp d1) false ∧ o2.dst = some d2 ∧ o2.guard = none) (h3 : o3.op = .extract (.tmp d2) 0 ∧ o3.dst = some d3 ∧ o3.guard = none)
    (h4 : o4.op = .entry (.tmp d1) ∧ o4.dst = some d4 ∧ o4.guard = none) (hops : ops2.toList = o4 :: l)
    (hd : d0 < N ∧ d1 < N ∧ d2 < N ∧ d3 < N ∧ d4 < N) (hne : d2 ≠ d1 ∧ d3 ≠ d1) (hT : P.underlying T = some (.map kt et))
    {A : Type} (S : Nat → A → St) (Inv : List (Value × Value) → A → Prop) (live : List Nat) (ids : List Nat) {Sfin : A → St} {st0 : St} {es : List (Value × Value)} {a0 : A}
    (hx : st0.val x0 = .v (.one (.mp mb))) (hes : st0.H.get mb = .map es) (hone : ∀ p ∈ es, p.1.oneCell' = true ∧ p.2.oneCell' = true) (hesc0 : st0.esc = false)
    (hmb : mb ∉ ids) (hids : ∀ b, (st0.H.get b).live → b = mb ∨ b ∈ ids)
    (hS : ∀ r a, st0.nx ≤ (S r a).nx ∧ (S r a).esc = false ∧ (S r a).sl.get d1 = itV r ∧ (S r a).sl.get d2 = .top ∧ (S r a).sl.get d3 = .top)
    (h00 : ∀ r, StLe st0.nx ⟨(d1, itV r) :: (d0, .top) :: st0.sl, st0.H.filter (fun e => ids.any (Nat.beq e.1)), st0.nx, false, 0, []⟩ (S r a0))
    (hI0 : Inv es a0)
    (hround : ∀ r a left1 left2 p, p ∈ es → Inv (left1 ++ p :: left2) a → ∃ s a', (evRR G K F N ops2.toList l rest kb st0.nx live ((S r a).put (some d4) (.tup [.one (.f (.lit p.1)), .one (.f (.lit p.2))]))).res = some (.normal, s) ∧ StLe st0.nx s (S r a') ∧ Inv (left1 ++ left2) a')
    (hend : ∀ r a, Inv [] a → StLe st0.nx (S r a) (Sfin a)) (hfin : ∀ a, (Sfin a).esc = false) :
    HT P N (rgCode id0 jb id1 kb id2 o0 o1 o2 o3 (.tmp d3) ops2 rest) st0 (fun e s => e = .normal ∧ ∃ acc, Inv [] acc ∧ s = ⟨(Sfin acc).sl, (Sfin acc).H ++ st0.H.filter (fun e => !(ids.any (Nat.beq e.1))), (Sfin acc).nx, false, 0, []⟩) := by
  obtain ⟨p0, q0, g0⟩ := h0
  obtain ⟨p1, q1, g1⟩ := h1
  obtain ⟨p2, q2, g2⟩ := h2
  obtain ⟨p3, q3, g3⟩ := h3
  obtain ⟨p4, q4, g4⟩ := h4
  obtain ⟨n0, n1, n2, n3, n4⟩ := hd
  intro w0 f z w a sit Q hQ
  obtain ⟨ht, hr, hN, hdf, hfr0, hnew0⟩ := sit
  have hX := val_ok ht x0
  rw [hx] at hX
  obtain ⟨hm0, hX⟩ := hX
  have hml : (st0.H.get mb).live := by rw [hes]; trivial
  obtain ⟨_, hok⟩ := hr.own mb trivial hml
  rw [hes] at hok
  obtain ⟨_, arr, clock, hw, he, hbo⟩ := hok.map es rfl
  -- the iterator is made
  refine wp_seq (wp_region ?_)
  show wpOps P #[o0, o1] _ [0, 1] a w
  simp only [wpOps]
  have i0 : (#[o0, o1] : Array Oper)[0]? = some o0 := rfl
  have i1 : (#[o0, o1] : Array Oper)[1]? = some o1 := rfl
  simp only [i0, i1, wanted_none g0, wanted_none g1, if_true]
  refine .inl (wp_value (v := .map (some (f mb).k)) (w' := w) ?_ ?_)
  · simp only [execOp, p0, hX]
    rfl
  have e0 : (a.put o0.dst (.map (some (f mb).k))).eval (.tmp d0) = .map (some (f mb).k) := by
    simp only [q0, Act.put, Act.eval]
    rw [Array.getD_eq_getD_getElem?, Array.getElem?_setIfInBounds_self_of_lt (by omega)]
    rfl
  refine .inl (wp_value (v := .pointer (some ⟨w.heap.size, 0, none⟩)) (w' := w.alloc (.mapIter (some (f mb).k) clock #[] clock)) ?_ ?_)
  · simp only [execOp, p1]
    refine run_v ?_
    rw [e0]
    exact run_range_map w T kt et (f mb).k arr clock hT hw
  generalize ha2 : (a.put o0.dst (.map (some (f mb).k))).put o1.dst (.pointer (some ⟨w.heap.size, 0, none⟩)) = a2
  have ht2 : TR f st0.nx z ((d1, itV w.heap.size) :: (d0, .top) :: st0.sl) a2.tmps := by
    rw [← ha2, q0, q1]
    simp only [Act.put]
    exact (ht.put (x := .top) (by omega) trivial).put (by rw [Array.size_setIfInBounds]; omega) (.lit _ rfl)
  have hN2 : a2.tmps.size = N := by rw [← ha2, q0, q1]; simp only [Act.put, Array.size_setIfInBounds]; exact hN
  have hd2 : a2.defers = [] := by rw [← ha2, q0, q1]; exact hdf
  -- the part without the map
  have hrp := hr.part fun b => ids.any (Nat.beq b)
  have hpa := Post.alloc0 hrp (.mapIter (some (f mb).k) clock #[] clock)
  have hkr : (f mb).k < w.heap.size := hok.lt
  have hinH : ∀ b, (Heap.get (st0.H.filter fun e => ids.any (Nat.beq e.1)) b).live → b ≠ mb ∧ (st0.H.get b).live := fun b hl => by
    rw [get_filter (fun b => ids.any (Nat.beq b))] at hl
    by_cases hb : ids.any (Nat.beq b) = true
    · rw [if_pos hb] at hl
      exact ⟨fun e => hmb (e ▸ (anyBeq ids b).1 hb), hl⟩
    · rw [if_neg hb] at hl; exact hl.elim
  have hit0 : It f (st0.H.filter fun e => ids.any (Nat.beq e.1)) (w.alloc (.mapIter (some (f mb).k) clock #[] clock)) (f mb).k w.heap.size arr clock clock #[] clock :=
    ⟨heap_alloc_new _ _, (heap_alloc_old w _ hkr).trans hw, hbo, Nat.le_refl _, Nat.le_refl _, fun b hl => by
      obtain ⟨hb1, hb2⟩ := hinH b hl
      have := (hr.own b trivial hb2).2.lt
      exact ⟨by omega, hr.inj b mb trivial trivial hb2 hml hb1⟩⟩
  obtain ⟨f1, z1, ht1, hp1⟩ := (h00 w.heap.size).to f z _ a2.tmps ht2 hpa.all
  have hP1 := (Post.trans' hpa hp1 (Nat.le_refl _)).weak (e' := false) fun _ => by rw [(hS w.heap.size a0).2.1]; rfl
  show (Code.block jb _).wp P Q a2 _
  refine wp_block ?_
  generalize hw1 : w.alloc (.mapIter (some (f mb).k) clock #[] clock) = w1 at *
  have hrs : w.heap.size < w1.heap.size := by rw [← hw1]; simp
  generalize hrr : w.heap.size = r at *
  generalize hkk : (f mb).k = k at *
  refine wp_loop_ghost (fun n a' w' => ∃ f' z' acc seen c0, n = (leftL arr seen).length ∧ Inv ((leftL arr seen).map kvE) acc ∧ TR f' (S r acc).nx z' (S r acc).sl a'.tmps ∧ a'.tmps.size = N ∧ a'.defers = [] ∧
    It f' (S r acc).H w' k r arr clock clock seen c0 ∧ Post All f st0.nx z w (st0.H.filter fun e => ids.any (Nat.beq e.1)) f' (S r acc).nx z' w' (S r acc).H false) (leftL arr #[]).length
    ⟨f1, z1, a0, #[], clock, rfl, ?_, ht1, hN2, hd2, hit0.post hp1, hP1⟩ ?_
  · have : leftL arr #[] = arr.toList := List.filter_eq_self.2 fun x _ => by simp
    rw [this]
    show Inv (arr.toList.map fun e => (e.key, e.val)) a0
    rw [he]; exact hI0
  rintro n a' w' ⟨f', z', acc, seen, c0, hn, hI, ht', hN', hd', hit, hP⟩
  have hSr := hS r acc
  have hitv : a'.eval (.tmp d1) = .pointer (some ⟨r, 0, none⟩) := by
    have := ht' d1
    rw [hSr.2.2.1] at this
    exact lit_ok this
  have hzr : ∀ o v, z' r o ≠ some v := fun o v hv => by
    have := hP.rel.zok r o v hv
    rw [cell_mapIter hit.it] at this
    cases this
  refine wp_seq (wp_region ?_)
  show wpOps P #[o2, o3] _ [0, 1] a' w'
  simp only [wpOps]
  have i2 : (#[o2, o3] : Array Oper)[0]? = some o2 := rfl
  have i3 : (#[o2, o3] : Array Oper)[1]? = some o3 := rfl
  simp only [i2, i3, wanted_none g2, wanted_none g3, if_true]
  have hput : ∀ (v2 v3 : Value), ((a'.put o2.dst v2).put o3.dst v3).tmps = (a'.tmps.setIfInBounds d2 v2).setIfInBounds d3 v3 ∧ ((a'.put o2.dst v2).put o3.dst v3).defers = [] := fun v2 v3 => by
    rw [q2, q3]
    exact ⟨rfl, hd'⟩
  have hev2 : ∀ v2 : Value, (a'.put o2.dst v2).eval (.tmp d2) = v2 := fun v2 => by
    simp only [q2, Act.put, Act.eval]
    rw [Array.getD_eq_getD_getElem?, Array.getElem?_setIfInBounds_self_of_lt (by omega)]
    rfl
  have hev3 : ∀ v2 v3 : Value, ((a'.put o2.dst v2).put o3.dst v3).eval (.tmp d3) = v3 := fun v2 v3 => by
    simp only [q2, q3, Act.put, Act.eval]
    rw [Array.getD_eq_getD_getElem?, Array.getElem?_setIfInBounds_self_of_lt (by rw [Array.size_setIfInBounds]; omega)]
    rfl
  have htp : ∀ v2 v3 : Value, TR f' (S r acc).nx z' (S r acc).sl ((a'.put o2.dst v2).put o3.dst v3).tmps := fun v2 v3 => by
    rw [(hput v2 v3).1]
    exact (ht'.skip hSr.2.2.2.1 v2).skip hSr.2.2.2.2 v3
  have hNp : ∀ v2 v3 : Value, ((a'.put o2.dst v2).put o3.dst v3).tmps.size = N := fun v2 v3 => by
    rw [(hput v2 v3).1]
    simp only [Array.size_setIfInBounds]; exact hN'
  rcases run_next_at (P := P) w' 0 r k clock c0 seen arr clock hit.it hit.mp hit.born.1 hit.sc with ⟨hz, hrun⟩ | ⟨e, he2, w2, hw2, hrun⟩
  · -- nothing is left
    have hleft : leftL arr seen = [] := by
      have : leftOf arr seen = #[] := Array.eq_empty_of_size_eq_zero hz
      unfold leftL
      have h9 := congrArg Array.toList this
      simpa [leftOf] using h9
    refine .inl (wp_value (v := .tuple #[.bool false]) (w' := w') ?_ ?_)
    · simp only [execOp, p2]
      refine run_v ?_
      rw [hitv]
      exact hrun
    refine .inl (wp_value (v := .bool false) (w' := w') ?_ ?_)
    · simp only [execOp, p3]
      refine run_v ?_
      rw [hev2]
      rfl
    show (Code.seq _ _).wp P _ _ _
    refine wp_seq (wp_cond_false (hev3 _ _) (wp_exit ?_))
    show Exit.inBlock jb Q (.exit jb) _ _
    simp only [Exit.inBlock, if_true]
    rw [hleft] at hI
    obtain ⟨f2, z2, ht2', hp2⟩ := (hend r acc hI).to f' z' w' _ (htp (.tuple #[.bool false]) (.bool false)) hP.all
    have hP2 := (Post.trans' hP hp2 (Nat.le_refl _)).weak (e' := false) fun _ => by rw [hfin acc]; rfl
    have hpp := Post.part ids hr.noLive hP2
    exact hQ .normal _ f2 z2 w' _ ⟨rfl, acc, hI, rfl⟩ ⟨ht2', (Post.lift hr hpp).all, hNp _ _, (hput _ _).2, Fr.on hfr0 hnew0 (Post.lift hr hpp), Post.new hfr0 hnew0 (Post.lift hr hpp)⟩
  · -- one comes out
    have he3 : e ∈ leftL arr seen := by
      unfold leftL
      simpa [leftOf] using he2
    have hea : e ∈ arr.toList := (List.mem_filter.1 he3).1
    have hw2h : w2.heap = w'.heap ∧ w2.os = w'.os ∧ w2.tape = w'.tape ∧ w2.output = w'.output := by rcases hw2 with rfl | rfl <;> exact ⟨rfl, rfl, rfl, rfl⟩
    generalize hw3 : setBlock w2 r (.mapIter (some k) clock (seen.push e.born) clock) = w3 at *
    have hb3 : ∀ x, x ≠ r → w3.heap[x]? = w'.heap[x]? := fun x hx => by
      rw [← hw3]
      simp only [setBlock, hw2h.1]
      rw [Array.getElem?_setIfInBounds_ne (Ne.symm hx)]
    have hs3 : w3.heap.size = w'.heap.size := by rw [← hw3]; simp [setBlock, hw2h.1]
    have hrlt : r < w'.heap.size := lt_of_some hit.it
    have hkne : k ≠ r := fun e9 => by
      have h8 := hit.it
      rw [← e9, hit.mp] at h8
      cases h8
    have hr3 : w3.heap[r]? = some (.mapIter (some k) clock (seen.push e.born) clock) := by
      rw [← hw3]
      simp only [setBlock, hw2h.1]
      rw [Array.getElem?_setIfInBounds_self_of_lt hrlt]
    have hm3 : w3.heap[k]? = some (.map arr clock) := (hb3 k hkne).trans hit.mp
    have hP3 : Post All f st0.nx z w (st0.H.filter fun e => ids.any (Nat.beq e.1)) f' (S r acc).nx z' w3 (S r acc).H false :=
      hP.other (by omega) hs3 (by rw [← hw3]; exact hw2h.2.1) (by rw [← hw3]; exact hw2h.2.2.1) (by rw [← hw3]; exact hw2h.2.2.2) hb3 (fun b hl => (hit.free b hl).1) hzr
    have hit3 : It f' (S r acc).H w3 k r arr clock clock (seen.push e.born) clock := ⟨hr3, hm3, hit.born, Nat.le_refl _, Nat.le_refl _, hit.free⟩
    refine .inl (wp_value (v := .tuple #[.bool true, e.key, e.val]) (w' := w3) ?_ ?_)
    · simp only [execOp, p2]
      refine run_v ?_
      rw [hitv]
      exact hrun
    refine .inl (wp_value (v := .bool true) (w' := w3) ?_ ?_)
    · simp only [execOp, p3]
      refine run_v ?_
      rw [hev2]
      rfl
    show (Code.seq _ _).wp P _ _ _
    refine wp_seq (wp_cond_true (hev3 _ _) (wp_skip ?_))
    show (Code.block kb _).wp P _ _ _
    refine wp_block (wp_seq (wp_region ?_))
    have hsz : List.range ops2.size = 0 :: List.range' 1 l.length := by
      have : ops2.size = l.length + 1 := by rw [← Array.length_toList, hops]; rfl
      rw [this, List.range_eq_range', List.range'_succ]
    rw [hsz]
    have i4 : ops2[0]? = some o4 := by rw [← Array.getElem?_toList, hops]; rfl
    simp only [wpOps, i4, wanted_none g4, if_true]
    have hitv2 : ((a'.put o2.dst (.tuple #[.bool true, e.key, e.val])).put o3.dst (.bool true)).eval (.tmp d1) = .pointer (some ⟨r, 0, none⟩) := by
      have := htp (.tuple #[.bool true, e.key, e.val]) (.bool true) d1
      rw [hSr.2.2.1] at this
      exact lit_ok this
    refine .inl (wp_value (v := .tuple #[e.key, e.val]) (w' := w3) ?_ ?_)
    · simp only [execOp, p4]
      refine run_v ?_
      rw [hitv2]
      exact run_entry_at w3 r k clock seen arr clock e hr3 hm3 hea hit.born.2
    obtain ⟨l1, l2, hl1, hl2⟩ := left_push hit.born he3
    have hpe : kvE e ∈ es := by rw [← he]; exact List.mem_map.2 ⟨e, hea, rfl⟩
    rw [hl1, List.map_append, List.map_cons] at hI
    obtain ⟨s, acc', hs1, hs2, hs3'⟩ := hround r acc (l1.map kvE) (l2.map kvE) (kvE e) hpe hI
    obtain ⟨s0, hs4, hs5⟩ := evRR_some hs1
    obtain ⟨c1, c2⟩ := evRest_ok hG hK hops hs4
    obtain ⟨o1', o2'⟩ := hone _ hpe
    have hty : TR f' ((S r acc).put (some d4) (.tup [.one (.f (.lit (kvE e).1)), .one (.f (.lit (kvE e).2))])).nx z' ((S r acc).put (some d4) (.tup [.one (.f (.lit (kvE e).1)), .one (.f (.lit (kvE e).2))])).sl
        (((a'.put o2.dst (.tuple #[.bool true, e.key, e.val])).put o3.dst (.bool true)).put o4.dst (.tuple #[e.key, e.val])).tmps := by
      rw [q4]
      refine (htp _ _).put (by rw [hNp]; omega) ?_
      exact ⟨#[e.key, e.val], rfl, .cons (.lit _ o1') (.cons (.lit _ o2') .nil)⟩
    refine c2 f' z' w3 _ hty hP3.all (by rw [q4]; simp only [Act.put, Array.size_setIfInBounds]; exact hNp _ _) (by rw [q4]; exact (hput _ _).2) _ fun f5 z5 w5 a5 hp5 ht5 hN5 hd5 => ?_
    show Exit.then _ _ .normal a5 w5
    obtain ⟨f6, z6, ht6, hp6⟩ := hs5.to f5 z5 w5 a5.tmps ht5 hp5.all
    obtain ⟨f7, z7, ht7, hp7⟩ := hs2.to f6 z6 w5 a5.tmps ht6 hp6.all
    refine ⟨(leftL arr (seen.push e.born)).length, ?_, f7, z7, acc', seen.push e.born, clock, rfl, ?_, ht7, hN5, hd5, ((hit3.post hp5).post hp6).post hp7, ?_⟩
    · rw [hn, hl1, hl2]
      simp
    · rw [hl2, List.map_append]
      exact hs3'
    · refine (Post.trans' (Post.trans' (Post.trans hP3 hp5) hp6 (Nat.le_refl _)) hp7 (Nat.le_refl _)).weak fun _ => ?_
      have g7 := (hS r acc').2.1
      have g6 := hs2.esc g7
      have g5 := hs5.esc g6
      rw [g7, g6, g5]
      rfl


omit hK in
/-- a call with arguments that are only looked at, that comes to true -/
theorem law_ht {g : Nat} {fn : Func} {c : Code} {args : List AV} {w : World} {vs : Array Value} (hg : G.fi g = some fn) (hb : fn.body = some c) (hle : args.length ≤ fn.ntmps) (ha : RAs noFn 0 (zAll w) args vs.toList)
    (h : HT P fn.ntmps c ⟨argSlots 0 args, [], 0, false, 0, []⟩ fun e s => (e = .normal ∨ e = .ret) ∧ (resultsOf G s fn.results.toList).res = some [AB true]) :
    Calls P g vs w fun e w' => e = .returned (.bool true) ∧ Go.RowKit.Below w.heap.size w w' := by
  obtain ⟨hf1, _, _⟩ := hG.fi g fn hg
  have hsz : args.length = vs.size := by simpa using ha.1
  refine calls_of_wp hf1 hb ?_
  refine h w noFn (zAll w) w _ ⟨argSlots_TR ha _, Rel.seen ⟨fun k o v h => h⟩, by simp; omega, rfl, Fr.refl _ _, fun b hl => hl.elim⟩ _ fun e st' f' z' w' a' hr s => ?_
  obtain ⟨he, hl⟩ := hr
  obtain ⟨v, hv1, hv2⟩ := results_ok hG s.tr s.rel hl
  have hv : v = .bool true := lit_ok hv2
  subst hv
  have hbel : Go.RowKit.Below w.heap.size w w' := s.fr.below
  rcases he with rfl | rfl
  · exact ⟨s.defers, .bool true, hv1, rfl, hbel⟩
  · exact ⟨s.defers, .bool true, hv1, rfl, hbel⟩
end

/-- a call without arguments that comes to true, wherever it is made -/
theorem truth_to {P : Program} {g : Nat} (h : ∀ w, Calls P g #[] w fun e w' => e = .returned (.bool true) ∧ Go.RowKit.Below w.heap.size w w') (H : Heap) (nx : Nat) :
    CallTo P g [] H nx ⟨.v (AB true), H, nx, false, []⟩ := by
  intro f z w vs hrel hargs R hR
  have hvs : vs = #[] := by
    have := hargs.1
    cases vs with
    | mk l => cases l with
      | nil => rfl
      | cons a l => simp at this
  subst hvs
  refine (h w).mono fun e w' ⟨he, hw⟩ => ?_
  subst he
  have hfr : Fr (fun _ => False) w w' := ⟨hw.size, hw.os, hw.tape, hw.output, fun k hk _ => hw.block k hk⟩
  refine hR f z w' (.bool true) ⟨Nat.le_refl _, fun _ _ => rfl, fun _ _ _ h => h, fun _ _ _ h => .inl h, fun _ _ _ => .inl rfl, fun _ _ h => h, ⟨fun b _ hl => ?_, fun b c _ _ hl hl' => hrel.inj b c trivial trivial hl hl', fun k o v hv => ?_⟩,
    fun b hb hl => absurd hl (hrel.noLive b hb), hfr.less fun _ _ h => h.elim, fun _ _ _ h => h⟩ (RF.lit _ rfl)
  · obtain ⟨h1, h2⟩ := hrel.own b trivial hl
    exact ⟨h1, h2.kept h1 hfr id (fun _ _ => rfl) (Nat.le_refl _) (fun _ _ _ h => h) fun _ _ _ h => .inl h⟩
  · have h1 := hrel.zok k o v hv
    rw [hfr.cell (block_lt_of_cell h1) id]
    exact h1

end Go.Proofs.YtbobakclbdaepaaGreat.En
/- The engine, part 41: what a pointer leads to, frozen: a value that nobody writes any more. -/
namespace Go.Proofs.YtbobakclbdaepaaGreat.En
open Go
set_option linter.unusedVariables false
set_option linter.unusedSimpArgs false

/-- how a cell's value is told, its own blocks B being frozen -/
inductive Cv (f : Fn) (w : World) (H : Heap) (B : List Nat) : CV → Value → FV → Prop
  | same (y : FV) (v : Value) : Cv f w H B (.f y) v y
  | any (x : CV) (v : Value) (h : v.oneCell' = true) : Cv f w H B x v (.lit v)
  | ptr (c : Nat) (l0 : List CV) (l : List FV) (hc : H.get c = .cells l0) (hB : c ∈ B) (hlen : l.length = l0.length)
      (h : ∀ (j : Nat) x v y, l0[j]? = some x → w.cell? (ad f c 0 0 j) = some v → l[j]? = some y → Cv f w H B x v y) : Cv f w H B (.ptr c 0 0 0) (.pointer (some (ad f c 0 0 0))) (.fp l)

open Classical in
/-- these blocks' cells, too -/
noncomputable def frzZ (f : Fn) (H : Heap) (B : List Nat) (w : World) (z : Z) : Z := fun k o => if ∃ c, c ∈ B ∧ (H.get c).live ∧ (f c).k = k then w.cell? ⟨k, o, none⟩ else z k o

theorem frzZ_in {f : Fn} {H : Heap} {B : List Nat} {w : World} {z : Z} {c : Nat} (hc : c ∈ B) (hl : (H.get c).live) (o : Nat) : frzZ f H B w z (f c).k o = w.cell? ⟨(f c).k, o, none⟩ := by
  unfold frzZ
  rw [if_pos ⟨c, hc, hl, rfl⟩]

theorem frzZ_le {f : Fn} {nx : Nat} {H : Heap} {B : List Nat} {w : World} {z : Z} (hr : Rel All f nx z w H) : z.le (frzZ f H B w z) := fun k o v hv => by
  unfold frzZ
  split
  · rename_i h
    obtain ⟨c, _, hl, rfl⟩ := h
    have := (hr.own c trivial hl).2.own o
    rw [this] at hv
    cases hv
  · exact hv

theorem Cv.ok {f : Fn} {nx : Nat} {z : Z} {w : World} {H : Heap} {B : List Nat} (hr : Rel All f nx z w H) {x : CV} {v : Value} {y : FV} (h : Cv f w H B x v y) : RC f nx z x v → RF (frzZ f H B w z) y v := by
  induction h with
  | same y v => exact fun h => RF.mono (frzZ_le hr) h
  | any x v h => exact fun _ => .lit v h
  | ptr c l0 l hc hB hlen h ih =>
    intro _
    have hl : (H.get c).live := by rw [hc]; trivial
    obtain ⟨_, hok⟩ := hr.own c trivial hl
    rw [hc] at hok
    have cell : ∀ (j : Nat) x, l0[j]? = some x → ∃ v, w.cell? (ad f c 0 0 j) = some v ∧ RC f nx z x v := fun j x hx => (hok.cell 0 0 j x (by simp only [Ob.at, and_self, if_true]; exact hx)).2
    have had : ∀ j, ad f c 0 0 j = ⟨(f c).k, (f c).d + j, none⟩ := fun j => by simp [ad]
    have h0 : ad f c 0 0 0 = ⟨(f c).k, (f c).d, none⟩ := by simp [ad]
    rw [h0]
    refine .fp l (f c).k (f c).d (fun j => (w.cell? (ad f c 0 0 j)).getD undef) (fun j hj => ?_) (fun j y hy => ?_)
    · obtain ⟨v, hv, _⟩ := cell j l0[j] (List.getElem?_eq_getElem (by omega))
      rw [frzZ_in hB hl, ← had, hv]
      rfl
    · have hj : j < l.length := (List.getElem?_eq_some_iff.1 hy).1
      have hx := List.getElem?_eq_getElem (l := l0) (i := j) (by omega)
      obtain ⟨v, hv, hrc⟩ := cell j _ hx
      simp only [hv, Option.getD_some]
      exact ih j _ v y hx hv hy hrc

/-- a slot's pointer and all that it leads to, frozen -/
theorem HT.frz {P : Program} {N : Nat} {c : Code} {st : St} {R : Ex → St → Prop} {t b : Nat} {B : List Nat} (ht : st.sl.get t = .v (.one (.ptr b 0 0 0)))
    (hY : ∀ (f : Fn) (z : Z) (w : World), (∀ d l0, d ∈ B → st.H.get d = .cells l0 → ∀ (j : Nat) x, l0[j]? = some x → ∃ v, w.cell? (ad f d 0 0 j) = some v ∧ RC f st.nx z x v) →
      ∃ y, Cv f w st.H B (.ptr b 0 0 0) (.pointer (some (ad f b 0 0 0))) y ∧ HT P N c ⟨(t, .v (.one (.f y))) :: st.sl, st.H.filter (fun e => !(B.any (Nat.beq e.1))), st.nx, st.esc, 0, []⟩ R) : HT P N c st R := by
  intro w0 f z w a s Q hQ
  obtain ⟨y, hy, hgo⟩ := hY f z w fun d l0 hd hl0 j x hx => by
    have hl : (st.H.get d).live := by rw [hl0]; trivial
    obtain ⟨_, hok⟩ := s.rel.own d trivial hl
    rw [hl0] at hok
    obtain ⟨_, v, hv, hrc⟩ := hok.cell 0 0 j x (by simp only [Ob.at, and_self, if_true]; exact hx)
    exact ⟨v, hv, hrc⟩
  have hle := frzZ_le (B := B) s.rel
  have hg : ∀ e, (Heap.get (st.H.filter fun e => !(B.any (Nat.beq e.1))) e).live → Heap.get (st.H.filter fun e => !(B.any (Nat.beq e.1))) e = st.H.get e ∧ e ∉ B := fun e hl => by
    rw [get_filter (fun b => !(B.any (Nat.beq b)))] at hl ⊢
    by_cases hb : (!(B.any (Nat.beq e))) = true
    · rw [if_pos hb]
      refine ⟨rfl, fun h => ?_⟩
      rw [(anyBeq B e).2 h] at hb
      cases hb
    · rw [if_neg hb] at hl; exact hl.elim
  refine hgo w0 f (frzZ f st.H B w z) w a ⟨fun u => ?_, ⟨fun e _ hl => ?_, fun d e _ _ hl hl' hne => ?_, fun k o v hv => ?_⟩, s.size, s.defers, s.fr, fun e hl => ?_⟩ Q hQ
  · rw [Slots.get_cons]
    split
    · rename_i e
      subst e
      have h1 := s.tr t
      rw [ht] at h1
      have h2 : a.tmps.getD t undef = .pointer (some (ad f b 0 0 0)) := h1.2
      rw [h2]
      exact hy.ok s.rel ⟨h1.1, rfl⟩
    · exact RS.mono (fun _ _ => rfl) (Nat.le_refl _) hle (s.tr u)
  · obtain ⟨e1, hnB⟩ := hg e hl
    rw [e1] at hl
    obtain ⟨h1, h2⟩ := s.rel.own e trivial hl
    refine ⟨h1, ?_⟩
    rw [e1]
    refine ⟨h2.lt, fun p => ?_, h2.room, fun m i j x hx => ?_, h2.map⟩
    · unfold frzZ
      rw [if_neg]
      · exact h2.own p
      · rintro ⟨d, hd, hdl, hk⟩
        exact s.rel.inj d e trivial trivial hdl hl (fun h => hnB (h ▸ hd)) hk
    · obtain ⟨h3, v, h4, h5⟩ := h2.cell m i j x hx
      exact ⟨h3, v, h4, RC.mono (fun _ _ => rfl) (Nat.le_refl _) hle h5⟩
  · obtain ⟨e1, _⟩ := hg d hl
    obtain ⟨e2, _⟩ := hg e hl'
    exact s.rel.inj d e trivial trivial (e1 ▸ hl) (e2 ▸ hl') hne
  · unfold frzZ at hv
    split at hv
    · exact hv
    · exact s.rel.zok k o v hv
  · obtain ⟨e1, _⟩ := hg e hl
    exact s.new e (e1 ▸ hl)

end Go.Proofs.YtbobakclbdaepaaGreat.En
/- HandOffers: what the functions of a store that nobody writes come to. -/
namespace Go.Proofs.YtbobakclbdaepaaGreat.En
open Go
set_option linter.unusedVariables false
set_option linter.unusedSimpArgs false
set_option maxRecDepth 20000
set_option maxHeartbeats 1000000
abbrev iF (n : Int) : FV := .lit (.int .i64 n)
abbrev npF : FV := .lit (.pointer none)
/-- a shard's cells; the store's -/
def shF (k : Int) : List FV := [.lit (.slice none 0 0), iF 0, iF 0, iF 0, .lit (.string ⟨#[]⟩), iF 0, iF 0, iF 0, .lit (.string ⟨#[]⟩), iF 0, iF 0, iF 0, .lit (.string ⟨#[]⟩), iF 0, iF 0, iF 0, .lit (.string ⟨#[]⟩), iF k, iF 1, .lit (.bool false), iF 0]
def stF (hosts me : Int) (vp : Value) (hs : List FV) : List FV := iF hosts :: .lit vp :: iF 0 :: .lit (.bool false) :: iF me :: iF hosts :: hs

noncomputable def GOA1 : Ctx := GS.with ss_Ch ll_co
noncomputable def tgt_Held0 (hosts me : Int) (vp : Value) (x1 x2 x3 x4 x5 : FV) : T CallOut := evCallW [] GOA1 300 13 [.one (.f (.fp (stF hosts me vp [.fp (shF 0), x1, x2, x3, x4, x5]))), AI 0] [] 0
noncomputable def tgt_Weight0 (hosts me : Int) (vp : Value) (x1 x2 x3 x4 x5 : FV) : T CallOut := evCallW [] GOA1 300 14 [.one (.f (.fp (stF hosts me vp [.fp (shF 0), x1, x2, x3, x4, x5]))), AI 0] [] 0
noncomputable def tgt_Held3 (hosts me : Int) (vp : Value) (x0 x1 x2 x4 x5 : FV) : T CallOut := evCallW [] GOA1 300 13 [.one (.f (.fp (stF hosts me vp [x0, x1, x2, .fp (shF 3), x4, x5]))), AI 3] [] 0
noncomputable def tgt_Weight3 (hosts me : Int) (vp : Value) (x0 x1 x2 x4 x5 : FV) : T CallOut := evCallW [] GOA1 300 14 [.one (.f (.fp (stF hosts me vp [x0, x1, x2, .fp (shF 3), x4, x5]))), AI 3] [] 0
noncomputable def tgt_Shards (hosts me : Int) (vp : Value) : T CallOut := evCallW [] GOA1 300 20 [.one (.f (.fp (stF hosts me vp [.fp (shF 0), npF, .fp (shF 2), npF, .fp (shF 4), npF])))] [] 0
noncomputable def tgt_Load (hosts me : Int) (vp : Value) : T CallOut := evCallW [] GOA1 300 15 [.one (.f (.fp (stF hosts me vp [.fp (shF 0), npF, .fp (shF 2), npF, .fp (shF 4), npF])))] [] 0
noncomputable def tgt_anyF (hosts me : Int) (vp : Value) : T CallOut := evCallW [] GOA1 300 36 [.one (.f (.fp (stF hosts me vp [.fp (shF 0), npF, .fp (shF 2), npF, .fp (shF 4), npF])))] [] 0
theorem GKOA1 : KnownOk Tryz.prog GOA1 := KnownOk.lists ss_Ch_ok ll_co_ok
theorem GOOA1 : CtxOk Tryz.prog GOA1 := GS_ok.with _ _
theorem tree_Held0 (hosts me : Int) (vp : Value) (x1 x2 x3 x4 x5 : FV) : (tgt_Held0 hosts me vp x1 x2 x3 x4 x5).over (.ff (.ff (.ff (.ff (.tt (.tt (.ff (.tt (.tt (.tt (.tt (.tt (.ff (.tt (.tt (.ff (.tt (.tt (.ff (.tt (.tt (.ff (.ff (.tt (.tt .leaf))))))))))))))))))))))))) = T.ret (out0 (SV.tup [AV.agg [I (0 : Int), I (1 : Int), Nil, Nil, Bo false, I (0 : Int)], AB true])) := by kernel_rfl
theorem tree_Weight0 (hosts me : Int) (vp : Value) (x1 x2 x3 x4 x5 : FV) : (tgt_Weight0 hosts me vp x1 x2 x3 x4 x5).over (.ff (.ff (.ff (.ff (.tt (.tt (.ff .leaf))))))) = T.ret (out0 (SV.v (AI (1 : Int)))) := by kernel_rfl
theorem tree_Held3 (hosts me : Int) (vp : Value) (x0 x1 x2 x4 x5 : FV) : (tgt_Held3 hosts me vp x0 x1 x2 x4 x5).over (.ff (.ff (.ff (.ff (.tt (.ff (.ff (.ff (.tt (.ff (.tt (.tt (.tt (.tt (.tt (.ff (.tt (.tt (.ff (.tt (.tt (.ff (.tt (.tt (.ff (.ff (.tt (.tt .leaf)))))))))))))))))))))))))))) = T.ret (out0 (SV.tup [AV.agg [I (3 : Int), I (1 : Int), Nil, Nil, Bo false, I (0 : Int)], AB true])) := by kernel_rfl
theorem tree_Weight3 (hosts me : Int) (vp : Value) (x0 x1 x2 x4 x5 : FV) : (tgt_Weight3 hosts me vp x0 x1 x2 x4 x5).over (.ff (.ff (.ff (.ff (.tt (.ff (.ff (.ff (.tt (.ff .leaf)))))))))) = T.ret (out0 (SV.v (AI (1 : Int)))) := by kernel_rfl
theorem tree_Shards (hosts me : Int) (vp : Value) : (tgt_Shards hosts me vp).over (.tt (.tt (.tt (.tt (.ff (.tt (.tt (.tt (.ff (.tt (.tt (.tt (.tt (.ff (.ff (.tt (.tt (.tt (.tt (.ff (.tt (.tt (.tt (.tt (.ff (.ff (.tt (.tt (.tt (.tt (.ff (.ff (.tt (.tt (.ff (.tt .leaf)))))))))))))))))))))))))))))))))))) = T.ret ⟨SV.v (AV.one (CV.sl false 5 0 0 0 3 3 true 1)), [(5, Ob.cells [I (0 : Int), I (2 : Int), I (4 : Int)]), (4, Ob.cells [I (4 : Int)]), (3, Ob.dead), (2, Ob.cells [I (2 : Int)]), (1, Ob.dead), (0, Ob.cells [I (0 : Int)])], 6, false, []⟩ := by kernel_rfl
theorem tree_Load (hosts me : Int) (vp : Value) : (tgt_Load hosts me vp).over (.tt (.ff (.ff (.ff (.ff (.tt (.tt (.ff (.tt (.ff (.ff (.ff (.ff (.tt (.ff (.tt (.tt (.tt (.ff (.ff (.ff (.ff (.tt (.ff (.ff (.tt (.ff (.tt (.ff (.ff (.ff (.ff (.tt (.ff (.ff (.ff (.tt (.tt (.tt (.ff (.ff (.ff (.ff (.tt (.ff (.ff (.ff (.ff (.tt (.ff (.tt (.ff (.ff (.ff (.ff (.tt (.ff (.ff (.ff (.ff (.ff (.tt (.tt (.ff .leaf)))))))))))))))))))))))))))))))))))))))))))))))))))))))))))))))) = T.ret (out0 (SV.v (AI (3 : Int)))) := by kernel_rfl
theorem tree_anyF (hosts me : Int) (vp : Value) : (tgt_anyF hosts me vp).over (.tt (.tt (.tt (.tt (.ff (.tt (.tt (.tt (.ff (.tt (.tt (.tt (.tt (.ff (.ff (.tt (.tt (.tt (.tt (.ff (.tt (.tt (.tt (.tt (.ff (.ff (.tt (.tt (.tt (.tt (.ff (.ff (.tt (.tt (.ff (.tt (.tt (.tt (.tt (.tt (.ff (.ff (.ff (.ff (.tt (.tt (.ff (.tt (.tt (.tt (.tt (.tt (.ff (.tt (.tt (.ff (.tt (.tt (.ff (.tt (.tt (.ff (.ff (.tt (.tt (.tt (.tt (.tt (.ff (.tt (.tt (.tt (.ff (.tt (.ff (.ff (.ff (.ff (.tt (.ff (.ff (.tt (.ff (.tt (.tt (.tt (.tt (.tt (.ff (.tt (.tt (.ff (.tt (.tt (.ff (.tt (.tt (.ff (.ff (.tt (.tt (.tt (.tt (.tt (.ff (.tt (.tt (.tt (.ff (.ff (.tt (.ff (.ff (.ff (.ff (.tt (.ff (.ff (.ff (.ff (.tt (.ff (.tt (.tt (.tt (.tt (.tt (.ff (.tt (.tt (.ff (.tt (.tt (.ff (.tt (.tt (.ff (.ff (.tt (.tt (.tt (.tt (.tt (.ff (.ff .leaf))))))))))))))))))))))))))))))))))))))))))))))))))))))))))))))))))))))))))))))))))))))))))))))))))))))))))))))))))))))))))))))))))))))))))))))))) = T.ret (out0 (SV.v (AB false))) := by kernel_rfl
end Go.Proofs.YtbobakclbdaepaaGreat.En
