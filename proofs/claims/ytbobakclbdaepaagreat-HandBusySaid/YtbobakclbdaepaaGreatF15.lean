/- The engine, part 38: 'for k, v := range m', known by its rounds. -/
import Derived.Test.YtbobakclbdaepaaGreatF14
namespace Go.Proofs.YtbobakclbdaepaaGreat.En
open Go
open Go.ChangeMaps (setBlock)
set_option linter.unusedVariables false
set_option linter.unusedSimpArgs false

/-- the statement's code -/
abbrev rgCode (id0 jb id1 kb id2 : Nat) (o0 o1 o2 o3 : Oper) (c3 : Operand) (ops2 : Array Oper) (rest : Code) : Code :=
  .seq (.region id0 #[o0, o1] false) (.block jb (.loop (.seq (.region id1 #[o2, o3] false) (.seq (.cond c3 .skip (.exit jb)) (.block kb (.seq (.region id2 ops2 false) rest))))))

theorem wanted_none {o : Oper} (h : o.guard = none) (y : Nat → Option Bool) : Region.wanted o y = true := by simp [Region.wanted, h]

theorem Rel.part {f : Fn} {nx : Nat} {z : Z} {w : World} {H : Heap} (h : Rel All f nx z w H) (p : Nat → Bool) : Rel All f nx z w (H.filter fun e => p e.1) := by
  have hg : ∀ b, (Heap.get (H.filter fun e => p e.1) b).live → Heap.get (H.filter fun e => p e.1) b = H.get b ∧ p b = true := fun b hl => by
    rw [get_filter p] at hl ⊢
    by_cases hb : p b = true
    · rw [if_pos hb]; exact ⟨rfl, hb⟩
    · rw [if_neg hb] at hl; exact hl.elim
  refine ⟨fun b _ hl => ?_, fun b c _ _ hl hl' hne => ?_, h.zok⟩
  · obtain ⟨e, _⟩ := hg b hl
    rw [e] at hl ⊢
    exact h.own b trivial hl
  · obtain ⟨e, _⟩ := hg b hl
    obtain ⟨e', _⟩ := hg c hl'
    rw [e] at hl
    rw [e'] at hl'
    exact h.inj b c trivial trivial hl hl' hne

section
variable {P : Program} {G : Ctx} (hG : CtxOk P G) (hK : KnownOk P G)
include hG hK

theorem map_range {K F N mb id0 jb id1 kb id2 : Nat} {T kt et : Nat} {o0 o1 o2 o3 o4 : Oper} {x0 : Operand} {d0 d1 d2 d3 d4 : Nat} {ops2 : Array Oper} {l : List Oper} {rest : Code}
    (h0 : o0.op = .move x0 ∧ o0.dst = some d0 ∧ o0.guard = none) (h1 : o1.op = .range T (.tmp d0) ∧ o1.dst = some d1 ∧ o1.guard = none)
    (h2 : o2.op = .next (.tmp d1) false ∧ o2.dst = some d2 ∧ o2.guard = none) (h3 : o3.op = .extract (.tmp d2) 0 ∧ o3.dst = some d3 ∧ o3.guard = none)
    (h4 : o4.op = .entry (.tmp d1) ∧ o4.dst = some d4 ∧ o4.guard = none) (hops : ops2.toList = o4 :: l)
    (hd : d0 < N ∧ d1 < N ∧ d2 < N ∧ d3 < N ∧ d4 < N) (hne : d2 ≠ d1 ∧ d3 ≠ d1) (hT : P.underlying T = some (.map kt et))
    {A : Type} (S : Nat → A → St) (Inv : List (Value × Value) → A → Prop) (live : List Nat) (ids : List Nat) {Sfin st0 : St} {es : List (Value × Value)} {a0 : A}
    (hx : st0.val x0 = .v (.one (.mp mb))) (hes : st0.H.get mb = .map es) (hone : ∀ p ∈ es, p.1.oneCell' = true ∧ p.2.oneCell' = true) (hesc0 : st0.esc = false)
    (hmb : mb ∉ ids) (hids : ∀ b, (st0.H.get b).live → b = mb ∨ b ∈ ids)
    (hS : ∀ r a, st0.nx ≤ (S r a).nx ∧ (S r a).esc = false ∧ (S r a).sl.get d1 = itV r ∧ (S r a).sl.get d2 = .top ∧ (S r a).sl.get d3 = .top)
    (h00 : ∀ r, StLe st0.nx ⟨(d1, itV r) :: (d0, .top) :: st0.sl, st0.H.filter (fun e => ids.any (Nat.beq e.1)), st0.nx, false, 0, []⟩ (S r a0))
    (hI0 : Inv es a0)
    (hround : ∀ r a left1 left2 p, p ∈ es → Inv (left1 ++ p :: left2) a → ∃ s a', (evRR G K F N ops2.toList l rest kb st0.nx live ((S r a).put (some d4) (.tup [.one (.f (.lit p.1)), .one (.f (.lit p.2))]))).res = some (.normal, s) ∧ StLe st0.nx s (S r a') ∧ Inv (left1 ++ left2) a')
    (hend : ∀ r a, Inv [] a → StLe st0.nx (S r a) Sfin) (hfin : Sfin.esc = false) :
    CodeOk P N (rgCode id0 jb id1 kb id2 o0 o1 o2 o3 (.tmp d3) ops2 rest) st0 .normal ⟨Sfin.sl, Sfin.H ++ st0.H.filter (fun e => !(ids.any (Nat.beq e.1))), Sfin.nx, false, 0, []⟩ := by
  obtain ⟨p0, q0, g0⟩ := h0
  obtain ⟨p1, q1, g1⟩ := h1
  obtain ⟨p2, q2, g2⟩ := h2
  obtain ⟨p3, q3, g3⟩ := h3
  obtain ⟨p4, q4, g4⟩ := h4
  obtain ⟨n0, n1, n2, n3, n4⟩ := hd
  refine ⟨fun _ => hesc0, fun f z w a ht hr hN hdf Q hQ => ?_⟩
  have hX := val_ok ht x0
  rw [hx] at hX
  obtain ⟨hm0, hX⟩ := hX
  have hml : (st0.H.get mb).live := by rw [hes]; trivial
  obtain ⟨_, hok⟩ := hr.own mb trivial hml
  rw [hes] at hok
  obtain ⟨_, arr, clock, hw, he, hbo⟩ := hok.map es rfl
  -- the iterator is made
  refine wp_seq (wp_region ?_)
  show wpOps P #[o0, o1] _ [0, 1] a w
  simp only [wpOps]
  have i0 : (#[o0, o1] : Array Oper)[0]? = some o0 := rfl
  have i1 : (#[o0, o1] : Array Oper)[1]? = some o1 := rfl
  simp only [i0, i1, wanted_none g0, wanted_none g1, if_true]
  refine .inl (wp_value (v := .map (some (f mb).k)) (w' := w) ?_ ?_)
  · simp only [execOp, p0, hX]
    rfl
  have e0 : (a.put o0.dst (.map (some (f mb).k))).eval (.tmp d0) = .map (some (f mb).k) := by
    simp only [q0, Act.put, Act.eval]
    rw [Array.getD_eq_getD_getElem?, Array.getElem?_setIfInBounds_self_of_lt (by omega)]
    rfl
  refine .inl (wp_value (v := .pointer (some ⟨w.heap.size, 0, none⟩)) (w' := w.alloc (.mapIter (some (f mb).k) clock #[] clock)) ?_ ?_)
  · simp only [execOp, p1]
    refine run_v ?_
    rw [e0]
    exact run_range_map w T kt et (f mb).k arr clock hT hw
  generalize ha2 : (a.put o0.dst (.map (some (f mb).k))).put o1.dst (.pointer (some ⟨w.heap.size, 0, none⟩)) = a2
  have ht2 : TR f st0.nx z ((d1, itV w.heap.size) :: (d0, .top) :: st0.sl) a2.tmps := by
    rw [← ha2, q0, q1]
    simp only [Act.put]
    exact (ht.put (x := .top) (by omega) trivial).put (by rw [Array.size_setIfInBounds]; omega) (.lit _ rfl)
  have hN2 : a2.tmps.size = N := by rw [← ha2, q0, q1]; simp only [Act.put, Array.size_setIfInBounds]; exact hN
  have hd2 : a2.defers = [] := by rw [← ha2, q0, q1]; exact hdf
  -- the part without the map
  have hrp := hr.part fun b => ids.any (Nat.beq b)
  have hpa := Post.alloc0 hrp (.mapIter (some (f mb).k) clock #[] clock)
  have hkr : (f mb).k < w.heap.size := hok.lt
  have hinH : ∀ b, (Heap.get (st0.H.filter fun e => ids.any (Nat.beq e.1)) b).live → b ≠ mb ∧ (st0.H.get b).live := fun b hl => by
    rw [get_filter (fun b => ids.any (Nat.beq b))] at hl
    by_cases hb : ids.any (Nat.beq b) = true
    · rw [if_pos hb] at hl
      exact ⟨fun e => hmb (e ▸ (anyBeq ids b).1 hb), hl⟩
    · rw [if_neg hb] at hl; exact hl.elim
  have hit0 : It f (st0.H.filter fun e => ids.any (Nat.beq e.1)) (w.alloc (.mapIter (some (f mb).k) clock #[] clock)) (f mb).k w.heap.size arr clock clock #[] clock :=
    ⟨heap_alloc_new _ _, (heap_alloc_old w _ hkr).trans hw, hbo, Nat.le_refl _, Nat.le_refl _, fun b hl => by
      obtain ⟨hb1, hb2⟩ := hinH b hl
      have := (hr.own b trivial hb2).2.lt
      exact ⟨by omega, hr.inj b mb trivial trivial hb2 hml hb1⟩⟩
  obtain ⟨f1, z1, ht1, hp1⟩ := (h00 w.heap.size).to f z _ a2.tmps ht2 hpa.all
  have hP1 := (Post.trans' hpa hp1 (Nat.le_refl _)).weak (e' := false) fun _ => by rw [(hS w.heap.size a0).2.1]; rfl
  show (Code.block jb _).wp P Q a2 _
  refine wp_block ?_
  generalize hw1 : w.alloc (.mapIter (some (f mb).k) clock #[] clock) = w1 at *
  have hrs : w.heap.size < w1.heap.size := by rw [← hw1]; simp
  generalize hrr : w.heap.size = r at *
  generalize hkk : (f mb).k = k at *
  refine wp_loop_ghost (fun n a' w' => ∃ f' z' acc seen c0, n = (leftL arr seen).length ∧ Inv ((leftL arr seen).map kvE) acc ∧ TR f' (S r acc).nx z' (S r acc).sl a'.tmps ∧ a'.tmps.size = N ∧ a'.defers = [] ∧
    It f' (S r acc).H w' k r arr clock clock seen c0 ∧ Post All f st0.nx z w (st0.H.filter fun e => ids.any (Nat.beq e.1)) f' (S r acc).nx z' w' (S r acc).H false) (leftL arr #[]).length
    ⟨f1, z1, a0, #[], clock, rfl, ?_, ht1, hN2, hd2, hit0.post hp1, hP1⟩ ?_
  · have : leftL arr #[] = arr.toList := List.filter_eq_self.2 fun x _ => by simp
    rw [this]
    show Inv (arr.toList.map fun e => (e.key, e.val)) a0
    rw [he]; exact hI0
  rintro n a' w' ⟨f', z', acc, seen, c0, hn, hI, ht', hN', hd', hit, hP⟩
  have hSr := hS r acc
  have hitv : a'.eval (.tmp d1) = .pointer (some ⟨r, 0, none⟩) := by
    have := ht' d1
    rw [hSr.2.2.1] at this
    exact lit_ok this
  have hzr : ∀ o v, z' r o ≠ some v := fun o v hv => by
    have := hP.rel.zok r o v hv
    rw [cell_mapIter hit.it] at this
    cases this
  refine wp_seq (wp_region ?_)
  show wpOps P #[o2, o3] _ [0, 1] a' w'
  simp only [wpOps]
  have i2 : (#[o2, o3] : Array Oper)[0]? = some o2 := rfl
  have i3 : (#[o2, o3] : Array Oper)[1]? = some o3 := rfl
  simp only [i2, i3, wanted_none g2, wanted_none g3, if_true]
  have hput : ∀ (v2 v3 : Value), ((a'.put o2.dst v2).put o3.dst v3).tmps = (a'.tmps.setIfInBounds d2 v2).setIfInBounds d3 v3 ∧ ((a'.put o2.dst v2).put o3.dst v3).defers = [] := fun v2 v3 => by
    rw [q2, q3]
    exact ⟨rfl, hd'⟩
  have hev2 : ∀ v2 : Value, (a'.put o2.dst v2).eval (.tmp d2) = v2 := fun v2 => by
    simp only [q2, Act.put, Act.eval]
    rw [Array.getD_eq_getD_getElem?, Array.getElem?_setIfInBounds_self_of_lt (by omega)]
    rfl
  have hev3 : ∀ v2 v3 : Value, ((a'.put o2.dst v2).put o3.dst v3).eval (.tmp d3) = v3 := fun v2 v3 => by
    simp only [q2, q3, Act.put, Act.eval]
    rw [Array.getD_eq_getD_getElem?, Array.getElem?_setIfInBounds_self_of_lt (by rw [Array.size_setIfInBounds]; omega)]
    rfl
  have htp : ∀ v2 v3 : Value, TR f' (S r acc).nx z' (S r acc).sl ((a'.put o2.dst v2).put o3.dst v3).tmps := fun v2 v3 => by
    rw [(hput v2 v3).1]
    exact (ht'.skip hSr.2.2.2.1 v2).skip hSr.2.2.2.2 v3
  have hNp : ∀ v2 v3 : Value, ((a'.put o2.dst v2).put o3.dst v3).tmps.size = N := fun v2 v3 => by
    rw [(hput v2 v3).1]
    simp only [Array.size_setIfInBounds]; exact hN'
  rcases run_next_at (P := P) w' 0 r k clock c0 seen arr clock hit.it hit.mp hit.born.1 hit.sc with ⟨hz, hrun⟩ | ⟨e, he2, w2, hw2, hrun⟩
  · -- nothing is left
    have hleft : leftL arr seen = [] := by
      have : leftOf arr seen = #[] := Array.eq_empty_of_size_eq_zero hz
      unfold leftL
      have h9 := congrArg Array.toList this
      simpa [leftOf] using h9
    refine .inl (wp_value (v := .tuple #[.bool false]) (w' := w') ?_ ?_)
    · simp only [execOp, p2]
      refine run_v ?_
      rw [hitv]
      exact hrun
    refine .inl (wp_value (v := .bool false) (w' := w') ?_ ?_)
    · simp only [execOp, p3]
      refine run_v ?_
      rw [hev2]
      rfl
    show (Code.seq _ _).wp P _ _ _
    refine wp_seq (wp_cond_false (hev3 _ _) (wp_exit ?_))
    show Exit.inBlock jb Q (.exit jb) _ _
    simp only [Exit.inBlock, if_true]
    rw [hleft] at hI
    obtain ⟨f2, z2, ht2', hp2⟩ := (hend r acc hI).to f' z' w' _ (htp (.tuple #[.bool false]) (.bool false)) hP.all
    have hP2 := (Post.trans' hP hp2 (Nat.le_refl _)).weak (e' := false) fun _ => by rw [hfin]; rfl
    have hpp := Post.part ids hr.noLive hP2
    exact hQ f2 z2 w' _ (Post.lift hr hpp) ht2' (hNp _ _) (hput _ _).2
  · -- one comes out
    have he3 : e ∈ leftL arr seen := by
      unfold leftL
      simpa [leftOf] using he2
    have hea : e ∈ arr.toList := (List.mem_filter.1 he3).1
    have hw2h : w2.heap = w'.heap ∧ w2.os = w'.os ∧ w2.tape = w'.tape ∧ w2.output = w'.output := by rcases hw2 with rfl | rfl <;> exact ⟨rfl, rfl, rfl, rfl⟩
    generalize hw3 : setBlock w2 r (.mapIter (some k) clock (seen.push e.born) clock) = w3 at *
    have hb3 : ∀ x, x ≠ r → w3.heap[x]? = w'.heap[x]? := fun x hx => by
      rw [← hw3]
      simp only [setBlock, hw2h.1]
      rw [Array.getElem?_setIfInBounds_ne (Ne.symm hx)]
    have hs3 : w3.heap.size = w'.heap.size := by rw [← hw3]; simp [setBlock, hw2h.1]
    have hrlt : r < w'.heap.size := lt_of_some hit.it
    have hkne : k ≠ r := fun e9 => by
      have h8 := hit.it
      rw [← e9, hit.mp] at h8
      cases h8
    have hr3 : w3.heap[r]? = some (.mapIter (some k) clock (seen.push e.born) clock) := by
      rw [← hw3]
      simp only [setBlock, hw2h.1]
      rw [Array.getElem?_setIfInBounds_self_of_lt hrlt]
    have hm3 : w3.heap[k]? = some (.map arr clock) := (hb3 k hkne).trans hit.mp
    have hP3 : Post All f st0.nx z w (st0.H.filter fun e => ids.any (Nat.beq e.1)) f' (S r acc).nx z' w3 (S r acc).H false :=
      hP.other (by omega) hs3 (by rw [← hw3]; exact hw2h.2.1) (by rw [← hw3]; exact hw2h.2.2.1) (by rw [← hw3]; exact hw2h.2.2.2) hb3 (fun b hl => (hit.free b hl).1) hzr
    have hit3 : It f' (S r acc).H w3 k r arr clock clock (seen.push e.born) clock := ⟨hr3, hm3, hit.born, Nat.le_refl _, Nat.le_refl _, hit.free⟩
    refine .inl (wp_value (v := .tuple #[.bool true, e.key, e.val]) (w' := w3) ?_ ?_)
    · simp only [execOp, p2]
      refine run_v ?_
      rw [hitv]
      exact hrun
    refine .inl (wp_value (v := .bool true) (w' := w3) ?_ ?_)
    · simp only [execOp, p3]
      refine run_v ?_
      rw [hev2]
      rfl
    show (Code.seq _ _).wp P _ _ _
    refine wp_seq (wp_cond_true (hev3 _ _) (wp_skip ?_))
    show (Code.block kb _).wp P _ _ _
    refine wp_block (wp_seq (wp_region ?_))
    have hsz : List.range ops2.size = 0 :: List.range' 1 l.length := by
      have : ops2.size = l.length + 1 := by rw [← Array.length_toList, hops]; rfl
      rw [this, List.range_eq_range', List.range'_succ]
    rw [hsz]
    have i4 : ops2[0]? = some o4 := by rw [← Array.getElem?_toList, hops]; rfl
    simp only [wpOps, i4, wanted_none g4, if_true]
    have hitv2 : ((a'.put o2.dst (.tuple #[.bool true, e.key, e.val])).put o3.dst (.bool true)).eval (.tmp d1) = .pointer (some ⟨r, 0, none⟩) := by
      have := htp (.tuple #[.bool true, e.key, e.val]) (.bool true) d1
      rw [hSr.2.2.1] at this
      exact lit_ok this
    refine .inl (wp_value (v := .tuple #[e.key, e.val]) (w' := w3) ?_ ?_)
    · simp only [execOp, p4]
      refine run_v ?_
      rw [hitv2]
      exact run_entry_at w3 r k clock seen arr clock e hr3 hm3 hea hit.born.2
    obtain ⟨l1, l2, hl1, hl2⟩ := left_push hit.born he3
    have hpe : kvE e ∈ es := by rw [← he]; exact List.mem_map.2 ⟨e, hea, rfl⟩
    rw [hl1, List.map_append, List.map_cons] at hI
    obtain ⟨s, acc', hs1, hs2, hs3'⟩ := hround r acc (l1.map kvE) (l2.map kvE) (kvE e) hpe hI
    obtain ⟨s0, hs4, hs5⟩ := evRR_some hs1
    obtain ⟨c1, c2⟩ := evRest_ok hG hK hops hs4
    obtain ⟨o1', o2'⟩ := hone _ hpe
    have hty : TR f' ((S r acc).put (some d4) (.tup [.one (.f (.lit (kvE e).1)), .one (.f (.lit (kvE e).2))])).nx z' ((S r acc).put (some d4) (.tup [.one (.f (.lit (kvE e).1)), .one (.f (.lit (kvE e).2))])).sl
        (((a'.put o2.dst (.tuple #[.bool true, e.key, e.val])).put o3.dst (.bool true)).put o4.dst (.tuple #[e.key, e.val])).tmps := by
      rw [q4]
      refine (htp _ _).put (by rw [hNp]; omega) ?_
      exact ⟨#[e.key, e.val], rfl, .cons (.lit _ o1') (.cons (.lit _ o2') .nil)⟩
    refine c2 f' z' w3 _ hty hP3.all (by rw [q4]; simp only [Act.put, Array.size_setIfInBounds]; exact hNp _ _) (by rw [q4]; exact (hput _ _).2) _ fun f5 z5 w5 a5 hp5 ht5 hN5 hd5 => ?_
    show Exit.then _ _ .normal a5 w5
    obtain ⟨f6, z6, ht6, hp6⟩ := hs5.to f5 z5 w5 a5.tmps ht5 hp5.all
    obtain ⟨f7, z7, ht7, hp7⟩ := hs2.to f6 z6 w5 a5.tmps ht6 hp6.all
    refine ⟨(leftL arr (seen.push e.born)).length, ?_, f7, z7, acc', seen.push e.born, clock, rfl, ?_, ht7, hN5, hd5, ((hit3.post hp5).post hp6).post hp7, ?_⟩
    · rw [hn, hl1, hl2]
      simp
    · rw [hl2, List.map_append]
      exact hs3'
    · refine (Post.trans' (Post.trans' (Post.trans hP3 hp5) hp6 (Nat.le_refl _)) hp7 (Nat.le_refl _)).weak fun _ => ?_
      have g7 := (hS r acc').2.1
      have g6 := hs2.esc g7
      have g5 := hs5.esc g6
      rw [g7, g6, g5]
      rfl

end

end Go.Proofs.YtbobakclbdaepaaGreat.En
