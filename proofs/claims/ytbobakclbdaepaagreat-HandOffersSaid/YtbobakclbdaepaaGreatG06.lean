/- Texts put together: E10. -/
import Derived.Test.YtbobakclbdaepaaGreatG05
import Derived.Lib.ConvBytes
import Derived.Laws.BytesArg
import Derived.Laws.AppendOwn
/- The engine, part 10: append, copy, clear, len, max, make, closures. -/
namespace Go.Proofs.YtbobakclbdaepaaGreat.En
open Go
set_option linter.unusedVariables false
set_option linter.unusedSimpArgs false

theorem two_args {f : Fn} {z : Z} {st : St} {a : Act} (ht : TR f st.nx z st.sl a.tmps) {c : Call} {x y : SV} (h : c.args.toList.map st.val = [x, y]) : ∃ u v, c.args.map a.eval = #[u, v] ∧ RS f st.nx z x u ∧ RS f st.nx z y v := by
  have hl : c.args.toList.length = 2 := by rw [← List.length_map (f := st.val), h]; rfl
  match hq : c.args.toList, hl with
  | [p, q], _ =>
    rw [hq] at h
    simp only [List.map_cons, List.map_nil, List.cons.injEq, and_true] at h
    refine ⟨a.eval p, a.eval q, ?_, by rw [← h.1]; exact val_ok ht p, by rw [← h.2]; exact val_ok ht q⟩
    apply Array.ext'
    simp [hq]

theorem one_arg {f : Fn} {z : Z} {st : St} {a : Act} (ht : TR f st.nx z st.sl a.tmps) {c : Call} {x : SV} (h : c.args.toList.map st.val = [x]) : ∃ u, c.args.map a.eval = #[u] ∧ RS f st.nx z x u := by
  have hl : c.args.toList.length = 1 := by rw [← List.length_map (f := st.val), h]; rfl
  match hq : c.args.toList, hl with
  | [p], _ =>
    rw [hq] at h
    simp only [List.map_cons, List.map_nil, List.cons.injEq, and_true] at h
    refine ⟨a.eval p, ?_, by rw [← h]; exact val_ok ht p⟩
    apply Array.ext'
    simp [hq]

def Src.mode (sz : Nat) : Src → Nat
  | .flat _ _ => 0
  | .fn _ _ => sz

theorem srcOf_sl {H : Heap} {sz : Nat} {nil : Bool} {b m i j len cap : Nat} {ex : Bool} {s : Nat} {old : Src} {fo : List Nat} (h : (srcOf H sz (.sl nil b m i j len cap ex s)).res = some (old, fo)) : (∀ q ∈ fo, q = b) ∧ old.n = len := by
  simp only [srcOf] at h
  split at h
  · split at h
    · split at h
      · obtain ⟨_, h⟩ := T.need_some h
        split at h
        · have h := T.ret_some h
          simp only [Prod.mk.injEq] at h
          obtain ⟨rfl, rfl⟩ := h
          exact ⟨fun q hq => by simpa using hq, rfl⟩
        · exact (T.bad_some h).elim
      · exact (T.bad_some h).elim
    · split at h
      · obtain ⟨_, h⟩ := T.need_some h
        have h := T.ret_some h
        simp only [Prod.mk.injEq] at h
        obtain ⟨rfl, rfl⟩ := h
        exact ⟨fun q hq => by simpa using hq, rfl⟩
      · exact (T.bad_some h).elim
    · exact (T.bad_some h).elim
  · exact (T.bad_some h).elim

theorem smallB_ok {need bytes : Nat} (h : smallB need bytes = true) : (2 * need + 512) * bytes ≤ 281474976710656 := by
  simp only [smallB, Bool.and_eq_true] at h
  have h1 := nble h.1
  have h2 := nble h.2
  rcases Nat.eq_zero_or_pos bytes with rfl | hb
  · omega
  · have h3 : 512 ≤ 281474976710656 / bytes := (Nat.le_div_iff_mul_le hb).2 h1
    have h4 : 2 * need + 512 ≤ 281474976710656 / bytes := by omega
    exact Nat.le_trans (Nat.mul_le_mul_right bytes h4) (Nat.div_mul_le_self _ _)

/-- the same cells, other marks at one block -/
theorem Post.frz {S : Nat → Prop} {f f' : Fn} {nx nx' : Nat} {z z' : Z} {w w' w'' : World} {H H' : Heap} {e : Bool} {r : Nat} (h : Post S f nx z w H f' nx' z' w' H' e) (hr : w.heap.size ≤ r) (hs : w''.heap.size = w'.heap.size)
    (ho : w''.os = w'.os) (ht : w''.tape = w'.tape) (hu : w''.output = w'.output) (hb : ∀ k, k ≠ r → w''.heap[k]? = w'.heap[k]?) (hc : ∀ p, w''.cell? ⟨r, p, none⟩ = w'.cell? ⟨r, p, none⟩)
    (hf : ∀ b, (S b ∨ nx ≤ b) → (H'.get b).live → (f' b).k = r → ¬ (H'.get b).isMap ∧ ∀ p, p < (f' b).t → w''.frozen? ⟨r, (f' b).d + p, none⟩ = false) :
    Post S f nx z w H f' nx' z' w'' H' e := by
  have hc' : ∀ k p, w''.cell? ⟨k, p, none⟩ = w'.cell? ⟨k, p, none⟩ := fun k p => by
    by_cases hk : k = r
    · subst hk; exact hc p
    · exact World.cell?_of_block (w := w') (hb k hk)
  refine ⟨h.hnx, h.ext, h.zle, h.znew, h.same, h.dead, ⟨fun b hS hl => ⟨(h.rel.own b hS hl).1, ?_⟩, h.rel.inj, fun k o v hv => by rw [hc']; exact h.rel.zok k o v hv⟩, h.fresh,
    ⟨by rw [hs]; exact h.fr.size, ho.trans h.fr.os, ht.trans h.fr.tape, hu.trans h.fr.output, fun k hk hn => (hb k (by omega)).trans (h.fr.block k hk hn)⟩, h.noesc⟩
  obtain ⟨_, ok⟩ := h.rel.own b hS hl
  have hcell : ∀ m i j x, (H'.get b).at m i j = some x → i * m + j < (f' b).t ∧ ∃ v, w''.cell? (ad f' b m i j) = some v ∧ RC f' nx' z' x v := fun m i j x hx => by
    obtain ⟨h1, v, h2, h3⟩ := ok.cell m i j x hx
    exact ⟨h1, v, by simp only [ad]; rw [hc']; exact h2, h3⟩
  by_cases hk : (f' b).k = r
  · obtain ⟨f1, f2⟩ := hf b hS hl hk
    exact ⟨by rw [hs]; exact ok.lt, ok.own, fun p hp => ⟨by rw [hc']; exact (ok.room p hp).1, by rw [hk]; exact f2 p hp⟩, hcell, fun es he => absurd (by rw [he]; trivial) f1⟩
  · exact ⟨by rw [hs]; exact ok.lt, ok.own, fun p hp => ⟨by rw [hc']; exact (ok.room p hp).1, by rw [World.frozen?_of_block (w := w') (hb _ hk)]; exact (ok.room p hp).2⟩, hcell, fun es he => by rw [hb _ hk]; exact ok.map es he⟩

/-- a string's bytes in a new block -/
theorem Post.bytes {f : Fn} {nx : Nat} {z : Z} {w : World} {H : Heap} {S : Nat → Prop} (hr : Rel S f nx z w H) (hno : ∀ b, nx ≤ b → ¬ (H.get b).live) (e : TypeId) (s : ByteArray) {esc : Bool} :
    Post S f nx z w H (upd f nx ⟨w.heap.size, 0, (Lib.bytesCells w e s).size⟩) (nx + 1) z (Lib.bytesWorld w e s) ((nx, .cells (s.data.toList.map fun c => .f (.lit (.int .u8 c.toNat)))) :: H) esc := by
  have hnew := Lib.bytesWorld_at_new w e s
  have hone : ∀ v ∈ (Lib.bytesCells w e s).toList, v.oneCell' = true := by
    intro v hv
    simp only [Lib.bytesCells, Array.toList_append, Array.toList_map, Array.toList_replicate, List.mem_append, List.mem_map, List.mem_replicate] at hv
    rcases hv with ⟨b, _, rfl⟩ | ⟨_, rfl⟩ <;> rfl
  have h0 := Post.undrew (Post.alloc (S := S) (esc := esc) hr.drew hno (.cells (s.data.toList.map fun c => .f (.lit (.int .u8 c.toNat)))) (Lib.bytesCells w e s) e id hone (by
    intro m i j x hx
    simp only [Ob.at] at hx
    split at hx
    · rename_i hz
      obtain ⟨rfl, rfl⟩ := hz
      simp only [List.getElem?_map, Option.map_eq_some_iff] at hx
      obtain ⟨c, hc, rfl⟩ := hx
      have hj : j < s.data.size := by simpa using (List.getElem?_eq_some_iff.1 hc).1
      refine ⟨.int .u8 c.toNat, ?_, RF.lit _ rfl⟩
      rw [Nat.zero_mul, Nat.zero_add, Lib.bytesCells, Array.getElem?_append_left (by simpa using hj)]
      have : s.data[j]? = some c := by simpa using hc
      simp [this]
    · cases hx))
  refine Post.frz (r := w.heap.size) h0 (Nat.le_refl _) ?_ rfl rfl rfl (fun k hk => ?_) (fun p => ?_) fun b hb hl hk => ?_
  · simp [Lib.bytesWorld, World.freeze, World.alloc, World.drew, -World.alloc_eq, -World.drew_eq]
  · simp [Lib.bytesWorld, World.freeze, World.alloc, World.drew, -World.alloc_eq, -World.drew_eq, Array.getElem?_modify, Ne.symm hk]
  · have h1 : (w.drew.alloc (.cells (Lib.bytesCells w e s) e)).heap[w.heap.size]? = some (.cells (Lib.bytesCells w e s) e) := by simp [World.alloc, World.drew, -World.alloc_eq, -World.drew_eq]
    simp only [World.cell?, hnew, h1]
  · by_cases hbn : b = nx
    · subst hbn
      refine ⟨by rw [Heap.get_cons, if_pos rfl]; exact id, fun p hp => ?_⟩
      rw [upd_same] at hp ⊢
      simp only [World.frozen?, hnew, Nat.zero_add]
      simp only at hp
      simp only [Bool.and_eq_false_iff, decide_eq_false_iff_not]
      omega
    · exfalso
      rw [Heap.get_cons, if_neg (Ne.symm hbn)] at hl
      have hS : S b := by
        rcases hb with h | h
        · exact h
        · exact absurd hl (hno b h)
      have h2 := hr.own b hS hl
      have h3 := h2.2.lt
      rw [upd_ext f nx _ b h2.1] at hk
      omega

theorem bytesOf?_ok {f : Fn} {nx : Nat} {z : Z} : ∀ {l : List CV} {bs : List UInt8} {vs : List Value}, bytesOf? l = some bs → RL f nx z l vs → ∃ ns : List Int, vs = ns.map (Value.int .u8) ∧ bs = ns.map fun n => UInt8.ofNat n.toNat
  | [], bs, vs, h, hv => by
    simp only [bytesOf?, Option.some.injEq] at h
    subst h
    have : vs = [] := List.eq_nil_of_length_eq_zero (by rw [← hv.1]; rfl)
    exact ⟨[], by simp [this], rfl⟩
  | x :: r, bs, vs, h, hv => by
    match vs, hv with
    | v :: vs, hv =>
      unfold bytesOf? at h
      split at h
      · rename_i heq; cases heq
      · rename_i n r' heq
        simp only [List.cons.injEq] at heq
        obtain ⟨rfl, rfl⟩ := heq
        split at h
        · rename_i l' hl'
          simp only [Option.some.injEq] at h
          subst h
          have h0 := lit_ok (f := f) (nx := nx) (hv.2 0 _ _ rfl rfl)
          subst h0
          obtain ⟨ns, h1, h2⟩ := bytesOf?_ok hl' (vs := vs) ⟨by have := hv.1; simpa using this, fun i x y hx hy => hv.2 (i + 1) x y (by simpa using hx) (by simpa using hy)⟩
          exact ⟨n :: ns, by simp [h1], by simp [h2]⟩
        · cases h
      · cases h
    | [], hv => simp [RL] at hv

theorem srcOf_notStr {f : Fn} {nx : Nat} {z : Z} {H : Heap} {sz n : Nat} {x : CV} {l : List CV} {fp : List Nat} {u : Value} (h : (srcOf H sz x).res = some (.flat n l, fp)) (hn : strLit x = false) (hu : RC f nx z x u) (b : ByteArray) : u ≠ .string b := by
  rintro rfl
  unfold srcOf at h
  split at h
  · cases hu
  · cases hu
  · cases hn
  · split at h
    · have h := T.ret_some h
      simp only [Prod.mk.injEq] at h
      cases h.1
    · exact (T.bad_some h).elim
  · rename_i nil b' m i j len cap ex s
    obtain ⟨_, h0, h1⟩ := hu
    cases nil with
    | true => obtain ⟨_, _, h⟩ := h0 rfl; cases h
    | false => obtain ⟨_, h, _⟩ := h1 rfl; cases h
  · exact (T.bad_some h).elim

theorem bytes_str {P : Program} {f : Fn} {nx : Nat} {z : Z} (w : World) (s t e : Nat) (hs : P.underlying s = some (.slice e)) (he : P.underlying e = some (.int .u8)) (hd : P.underlying t = some .string)
    {u : Value} (hns : ∀ b, u ≠ .string b) {n : Nat} {l : List CV} {g : Nat → Value} (hlay : Lay 1 u n g w) (hok : SrcOk f nx z 1 (.flat n l) ((List.range (n * 1)).map g)) {bs : List UInt8} (hbs : bytesOf? l = some bs) :
    (convert s t u).run P w = .ok (.string ⟨bs.toArray⟩) w := by
  obtain ⟨ns, h1, h2⟩ := bytesOf?_ok hbs hok.2
  cases hlay with
  | none hu hn =>
    subst hu hn
    have : ns = [] := by simpa using h1
    subst this
    subst h2
    exact run_convert_bytes_nil w s e hs he 0 0 t hd
  | str b hu hn hz hg => exact absurd hu (hns b)
  | mem a cap hu hc =>
    subst hu
    rw [run_convert_bytes_string w s t e _ n cap hs he hd]
    have hl := run_loadCells (P := P) w a n g (fun j hj => hc j (by omega))
    rw [run_bytesToString w a n cap ns (by rw [hl]; rw [Nat.mul_one] at h1; rw [h1]), foldl_push_bytes, h2]
    simp [ByteArray.empty, ByteArray.emptyWithCapacity]
    rfl

section ops
variable {P : Program} {G : Ctx} (hG : CtxOk P G) {call : CallF} {draw : Bool} {st : St} {o : Oper} {u : Out}
include hG

theorem op_append {c : Call} (ho : o.op = .call c) (hc : c.callee = .builtin .append) {t0 t1 : Nat} (hts : c.argTypes.toList = [t0, t1]) {s x : CV} (hargs : c.args.toList.map st.val = [.v (.one s), .v (.one x)])
    (h : (evAppend G st t0 t1 s x).res = some u) : OpOk P o st u := by
  intro f z w a ht hr hno K Q hk
  obtain ⟨sv, xv, hav, hsv, hxv⟩ := two_args ht hargs
  have hat : c.argTypes = #[t0, t1] := by apply Array.ext'; simpa using hts
  obtain ⟨kk, hrun⟩ := run_builtin (P := P) (a := a) (w := w) ho hc
  rw [hav, hat] at hrun
  have fin : ∀ q w', (Builtin.append_ #[t0, t1] o.type #[sv, xv]).run P w = .ok q w' → (execOp a.eval o).run P w = .ok (.value q) w' := fun q w' hq => by
    rw [hrun]
    exact run_v hq
  unfold evAppend at h
  split at h
  · rename_i sz0 by0 z0 e ag0 eq0 ti1 hi0 hi1
    have hT := hG.ti t0 _ hi0
    obtain ⟨d, hd, hk0, _⟩ := hT.und
    have := kindOf_slice hk0
    subst this
    split at h
    · exact (T.bad_some h).elim
    rename_i ei hei
    have hE := hG.ti e ei hei
    dsimp only at h
    split at h
    · exact (T.bad_some h).elim
    rename_i hz
    simp only [Bool.or_eq_false_iff] at hz
    have hsz : ei.size ≠ 0 := fun e => by rw [e] at hz; cases hz.1
    have hby : ei.bytes ≠ 0 := fun e => by rw [e] at hz; cases hz.2
    have h0 := T.bind_some h
    clear h
    obtain ⟨⟨src, fx⟩, hsrc, h⟩ := h0
    dsimp only at h
    -- what is small
    have small63 : ∀ n, (2 * n + 512) * ei.bytes ≤ 281474976710656 → (n : Int) ≤ 9223372036854775807 := fun n hn => by
      have h5 : (2 * n + 512) * 1 ≤ (2 * n + 512) * ei.bytes := Nat.mul_le_mul_left _ (Nat.pos_of_ne_zero hby)
      rw [Nat.mul_one] at h5
      have := Nat.le_trans h5 hn
      omega
    -- onto nothing
    have fresh : ∀ (base : Option Addr), sv = .slice base 0 0 →
        (T.br (Nat.beq src.n 0) (.ret ⟨.one s, st.H, st.nx, false, fx, []⟩) (.need (smallB src.n ei.bytes) (grown st [] ei.size src fx))).res = some u → o.wp P a w K Q := by
      intro base hbase h
      subst hbase
      rcases T.br_some h with ⟨hn, h⟩ | ⟨hn, h⟩
      · have hn := nbeq hn
        have h := T.ret_some h
        subst h
        obtain ⟨cs, ha, hsok⟩ := srcArg_ok hG hi1 hei hsrc hr (fun b hb => .inl hb) hxv
        rw [hn] at ha
        have := app_none (ty := o.type) hE w hd ha (by rw [hsok.len, hn]) base
        exact wp_value (fin _ _ this) (hk f z w _ (Post.refl hr hno) hsv)
      · have hn : src.n ≠ 0 := fun e => by rw [e] at hn; cases hn
        obtain ⟨hsm, h⟩ := T.need_some h
        have hsm := smallB_ok hsm
        have hfp : u.fp = fx := by
          unfold grown at h
          split at h <;> (have h := T.ret_some h; subst h; rfl)
        obtain ⟨cs, ha, hsok⟩ := srcArg_ok hG hi1 hei hsrc hr (fun b hb => .inl (by rw [hfp]; exact hb)) hxv
        obtain ⟨cap, hcap, hgr⟩ := app_grow (ty := o.type) hE w hd ha hsok.len hsok.all hsz hby base 0 0 [] (by cases base <;> simp [Builtin.firstCells, loadCells, loadCellsFrom]) (Nat.pos_of_ne_zero hn) (by omega) (by simpa using hsm)
        simp only [Nat.zero_add, List.nil_append] at hcap hgr
        obtain ⟨f', hp, hv, _, _⟩ := grow_post (rest := (Builtin.zeroCells ei.zero.toArray (cap - src.n)).toList) hr hno e hsok (zero_len hE _) (zero_all hE _) hcap [] (by simp) h
        exact wp_value (fin _ _ hgr) (hk _ z _ _ hp hv)
    split at h
    · have hs := lit_ok hsv
      exact fresh none hs h
    · rename_i nil
      cases hsv with
      | z0n => exact fresh none rfl h
      | z0s ad => exact fresh (some ad) rfl h
    · rename_i nil b m c' j len cap ex s'
      split at h
      · exact (T.bad_some h).elim
      rename_i hss
      have hss := nbeq hss
      subst hss
      obtain ⟨hb, hX0, hX1⟩ := hsv
      have h00 := T.br_some h
      clear h
      rcases h00 with ⟨hn, h⟩ | ⟨hnz, h⟩
      · -- nothing is appended
        have hn := nbeq hn
        have h := T.ret_some h
        subst h
        obtain ⟨cs, ha, hsok⟩ := srcArg_ok hG hi1 hei hsrc hr (fun b hb => .inl hb) hxv
        have hlen := hsok.len
        rw [hn] at ha hlen
        have hcs : cs = [] := by rw [← List.length_eq_zero_iff]; simpa using hlen
        cases nil with
        | true =>
          obtain ⟨r1, r2, hsv⟩ := hX0 rfl
          subst r1 r2 hsv
          have := app_none (ty := o.type) hE w hd ha hlen none
          exact wp_value (fin _ _ this) (hk f z w _ (Post.refl hr hno) ⟨hb, hX0, hX1⟩)
        | false =>
          obtain ⟨cap', rfl, c1, c2, c3, c4⟩ := hX1 rfl
          have := app_room (ty := o.type) hE w hd ha hlen hsok.all hsz hby (f b).k ((f b).d + (c' * m + j)) len cap' (by omega) (fun q hq => by omega) (fun q hq => by omega)
          rw [hcs] at this
          exact wp_value (fin _ _ this) (hk f z w _ (Post.refl hr hno) ⟨hb, hX0, fun _ => ⟨cap', rfl, c1, c2, c3, c4⟩⟩)
      clear hnz
      have h0 := T.br_some h
      clear h
      rcases h0 with ⟨hfit, h⟩ | ⟨hfit, h⟩
      · -- there is room
        have hfit := nble hfit
        have h0 := T.need_some h
        clear h
        obtain ⟨hnil, h⟩ := h0
        have hnil : nil = false := by simpa using hnil
        subst hnil
        split at h
        · rename_i n l _
          obtain ⟨ob, hw, h⟩ := T.bind_some h
          rw [Heap.putK_eq] at h
          have h := T.ret_some h
          subst h
          obtain ⟨cap', rfl, c1, c2, c3, c4⟩ := hX1 rfl
          obtain ⟨cs, ha, hsok⟩ := srcArg_ok hG hi1 hei hsrc hr (fun b hb => .inl (by simp [hb])) hxv
          have hS : Sx (b :: fx) [b] b := .inl (by simp)
          have hl : (st.H.get b).live := (Ob.wr_ok hw).1
          obtain ⟨_, hok⟩ := hr.own b hS hl
          simp only [Src.n] at ha hfit
          have hlen := hsok.len
          simp only [Src.n] at hlen
          have hnat : n * ei.size ≤ cap' * ei.size - len * ei.size := by
            rw [← Nat.sub_mul]; exact Nat.mul_le_mul_right _ (by omega)
          have hroomT : ∀ q, q < n * ei.size → c' * 0 + j + len * ei.size + q < (f b).t := fun q hq => by
            have : len * ei.size ≤ cap' * ei.size := Nat.mul_le_mul_right _ c1
            omega
          have hadd : (f b).d + (c' * 0 + (j + len * ei.size)) = (f b).d + (c' * 0 + j) + len * ei.size := by omega
          have := app_room (ty := o.type) hE w hd ha hlen hsok.all hsz hby (f b).k ((f b).d + (c' * 0 + j)) len cap' (by omega) (fun q hq => by
            have := hok.hasCell (hroomT q hq)
            rwa [show (f b).d + (c' * 0 + j + len * ei.size + q) = (f b).d + (c' * 0 + j) + len * ei.size + q by omega] at this) (fun q hq => by
            have := (hok.room _ (hroomT q hq)).2
            rwa [show (f b).d + (c' * 0 + j + len * ei.size + q) = (f b).d + (c' * 0 + j) + len * ei.size + q by omega] at this)
          rw [← hadd] at this
          refine wp_value (fin _ _ this) (hk f z _ _ (Post.write hS hr hw hsok.2 hno fun he => ?_) ⟨hb, (fun h => by cases h), fun _ => ⟨cap', rfl, by omega, c2, c3, c4⟩⟩)
          simp only [Bool.or_eq_false_iff] at he
          exact he.2
        · exact (T.bad_some h).elim
      · -- there may be none
        have hfit : cap < len + src.n := by
          rcases Nat.lt_or_ge cap (len + src.n) with h | h
          · exact h
          · rw [Nat.ble_eq_true_of_le h] at hfit; cases hfit
        obtain ⟨hsm, h⟩ := T.need_some h
        have hsm := smallB_ok hsm
        obtain ⟨⟨old, fo⟩, hold, h⟩ := T.bind_some h
        dsimp only at h
        split at h
        · rename_i all hall
          obtain ⟨hsub, holdn⟩ := srcOf_sl hold
          have hu : u = ⟨.one (.sl false st.nx (all.mode ei.size) 0 0 all.n all.n false ei.size), (st.nx, all.ob ei.size) :: (killOf ex b).foldl (fun H b => Heap.put H b .dead) st.H, st.nx + 1, false, b :: fx, st.nx :: (killOf ex b)⟩ := by
            cases all with
            | flat n l => exact (T.ret_some h).symm
            | fn n g => exact (T.ret_some h).symm
          have hfp : u.fp = b :: fx := by rw [hu]
          have hSb : Sx u.fp u.wr b := .inl (by rw [hfp]; simp)
          obtain ⟨cs, ha, hsok⟩ := srcArg_ok hG hi1 hei hsrc hr (fun b hb => .inl (by rw [hfp]; simp [hb])) hxv
          obtain ⟨olds, ho1, ho2⟩ := srcOf_ok (P := P) hold hr (fun q hq => by rw [hsub q hq]; exact hSb) (x := .sl nil b m c' j len cap ex ei.size) (u := sv) ⟨hb, hX0, hX1⟩
          obtain ⟨hall1, hall2⟩ := Src.app_ok ho2 hsok hall
          rw [holdn] at hall2 ho1
          have hkills : ∀ q ∈ (killOf ex b), Sx u.fp u.wr q ∧ q < st.nx := by
            intro q hq
            cases ex with
            | true => cases hq
            | false =>
              simp only [killOf, List.mem_singleton] at hq
              subst hq
              exact ⟨hSb, hb⟩
          -- a new row
          have newrow : ∀ base capc, sv = .slice base len capc → len ≤ capc → capc < len + src.n → o.wp P a w K Q := by
            intro base capc hsv hlc hg
            subst hsv
            obtain ⟨cap2, hcap, hgr⟩ := app_grow (ty := o.type) hE w hd ha hsok.len hsok.all hsz hby base len capc olds.toList (by simpa using (ho1 w.drew fun _ => rfl).1) (by omega) hg (by simpa using hsm)
            obtain ⟨f', hp, hv, _, _⟩ := grow_post (rest := (Builtin.zeroCells ei.zero.toArray (cap2 - (len + src.n))).toList) hr hno e hall1 (by rw [hall2]; exact zero_len hE _) (zero_all hE _) (by rw [hall2]; exact hcap) _ hkills h
            rw [hall2] at hv
            exact wp_value (fin _ _ hgr) (hk _ z _ _ hp hv)
          cases nil with
          | true =>
            obtain ⟨rfl, rfl, hsv⟩ := hX0 rfl
            exact newrow none 0 hsv (Nat.le_refl _) hfit
          | false =>
            obtain ⟨cap', hsv, c1, c2, c3, c4⟩ := hX1 rfl
            by_cases hin : len + src.n ≤ cap'
            · -- it was in place
              have hex : ex = false := by
                cases ex with
                | false => rfl
                | true => have := c3 rfl; omega
              subst hex
              subst hsv
              have hlive : (st.H.get b).live := by
                simp only [srcOf] at hold
                split at hold
                · split at hold
                  · rename_i hob; rw [hob]; trivial
                  · rename_i hob
                    split at hold
                    · obtain ⟨hn, _⟩ := T.need_some hold
                      rw [hob]
                      rw [Bool.and_eq_true] at hn
                      have := hn.1
                      simp only [Bool.false_or] at this
                      exact this
                    · exact (T.bad_some hold).elim
                  · exact (T.bad_some hold).elim
                · exact (T.bad_some hold).elim
              obtain ⟨_, hok⟩ := hr.own b hSb hlive
              have hlen := hsok.len
              have hmulc : (len + src.n) * ei.size ≤ cap' * ei.size := Nat.mul_le_mul_right _ hin
              rw [Nat.add_mul] at hmulc
              have hroomT : ∀ q, q < src.n * ei.size → c' * m + j + len * ei.size + q < (f b).t := fun q hq => by omega
              have hroomA : ∀ q, q < len * ei.size → c' * m + j + q < (f b).t := fun q hq => by omega
              have hrun2 := app_room (ty := o.type) hE w hd ha hlen hsok.all hsz hby (f b).k ((f b).d + (c' * m + j)) len cap' hin (fun q hq => by
                have := hok.hasCell (hroomT q hq)
                rwa [show (f b).d + (c' * m + j + len * ei.size + q) = (f b).d + (c' * m + j) + len * ei.size + q by omega] at this) (fun q hq => by
                have := (hok.room _ (hroomT q hq)).2
                rwa [show (f b).d + (c' * m + j + len * ei.size + q) = (f b).d + (c' * m + j) + len * ei.size + q by omega] at this)
              -- the old cells, as they lie
              have holds : ∀ (q : Nat) v, olds.toList[q]? = some v → w.cell? ⟨(f b).k, (f b).d + (c' * m + j) + q, none⟩ = some v := by
                have hl := loadCells_len (P := P) (w := w) (ad := ad f b m c' j) (n := len * ei.size) (g := fun q => (w.cell? ((ad f b m c' j).add q)).getD undef) (fun q hq => by
                  obtain ⟨v, hv, _⟩ := (hok.room _ (hroomA q hq)).1
                  rw [ad_add]
                  simp only [ad]
                  rw [show (f b).d + (c' * m + (j + q)) = (f b).d + (c' * m + j + q) by omega, hv]
                  rfl)
                have h2 := (ho1 w fun _ => rfl).1
                simp only [Builtin.firstCells] at h2
                rw [hl] at h2
                injection h2 with h2 _
                intro q v hq
                rw [← h2] at hq
                simp only [List.getElem?_map] at hq
                by_cases hlt : q < len * ei.size
                · rw [List.getElem?_range hlt] at hq
                  simp only [Option.map_some, Option.some.injEq] at hq
                  obtain ⟨v', hv', _⟩ := (hok.room _ (hroomA q hlt)).1
                  rw [ad_add] at hq
                  simp only [ad] at hq
                  rw [show (f b).d + (c' * m + (j + q)) = (f b).d + (c' * m + j + q) by omega, hv'] at hq
                  rw [show (f b).d + (c' * m + j) + q = (f b).d + (c' * m + j + q) by omega, hv']
                  exact congrArg some hq
                · rw [List.getElem?_eq_none (by simpa using hlt)] at hq
                  cases hq
              have hin' : ∀ q (hq : q < cs.length), (w.setCells (f b).k ((f b).d + (c' * m + j) + len * ei.size) cs).cell? ⟨(f b).k, (f b).d + (c' * m + j) + len * ei.size + q, none⟩ = some cs[q] := fun q hq =>
                World.cell?_setCells_in (f b).k cs _ w (fun p hp => by
                  have := hok.hasCell (hroomT p (by omega))
                  rwa [show (f b).d + (c' * m + j + len * ei.size + p) = (f b).d + (c' * m + j) + len * ei.size + p by omega] at this) q hq
              have hout' : ∀ p, (p < (f b).d + (c' * m + j) + len * ei.size ∨ (f b).d + (c' * m + j) + len * ei.size + cs.length ≤ p) →
                  (w.setCells (f b).k ((f b).d + (c' * m + j) + len * ei.size) cs).cell? ⟨(f b).k, p, none⟩ = w.cell? ⟨(f b).k, p, none⟩ := fun p hp =>
                World.cell?_setCells_out _ _ _ _ _ (fun _ _ => hp)
              have hmove := Post.move (w' := w.setCells (f b).k ((f b).d + (c' * m + j) + len * ei.size) cs) hr hno hSb hlive (all.ob ei.size) (Src.ob_noMap all ei.size) (c' * m + j) (by omega)
                (World.size_setCells _ _ _ _) (World.os_setCells _ _ _ _) (fun k hk => World.heap_setCells _ _ _ _ _ hk) (fun p hp => by
                  rw [World.frozen?_setCells]
                  refine ⟨?_, (hok.room p hp).2⟩
                  by_cases hq : c' * m + j + len * ei.size ≤ p ∧ p < c' * m + j + len * ei.size + cs.length
                  · have := hin' (p - (c' * m + j + len * ei.size)) (by omega)
                    rw [show (f b).d + (c' * m + j) + len * ei.size + (p - (c' * m + j + len * ei.size)) = (f b).d + p by omega] at this
                    exact ⟨_, this, hsok.all _ (List.getElem_mem _)⟩
                  · rw [hout' _ (by omega)]
                    exact (hok.room p hp).1) (fun m' i' j' y hy => by
                  obtain ⟨v, hv, hc⟩ := hall1.at m' i' j' y hy
                  have hlt := (List.getElem?_eq_some_iff.1 hv).1
                  rw [List.length_append, hlen] at hlt
                  have hol : olds.toList.length = len * ei.size := by rw [ho2.len, holdn]
                  refine ⟨by omega, v, ?_, hc⟩
                  by_cases hq : i' * m' + j' < len * ei.size
                  · rw [List.getElem?_append_left (by rw [hol]; exact hq)] at hv
                    rw [hout' _ (by omega)]
                    have := holds _ v hv
                    rwa [show (f b).d + (c' * m + j) + (i' * m' + j') = (f b).d + (c' * m + j + (i' * m' + j')) by omega] at this
                  · rw [List.getElem?_append_right (by rw [hol]; omega), hol] at hv
                    have hlt2 : i' * m' + j' - len * ei.size < cs.length := by omega
                    have := hin' _ hlt2
                    rw [show (f b).d + (c' * m + j) + len * ei.size + (i' * m' + j' - len * ei.size) = (f b).d + (c' * m + j + (i' * m' + j')) by omega] at this
                    rw [this]
                    rw [List.getElem?_eq_getElem hlt2] at hv
                    exact hv) (esc := false)
              refine wp_value (fin _ _ hrun2) ?_
              rw [hu] at hk hmove
              refine hk _ z _ _ hmove ⟨Nat.lt_succ_self _, (fun h => by cases h), fun _ => ⟨cap', ?_, by rw [hall2]; exact hin, by rw [hall2]; exact hin, (fun h => by cases h), ?_⟩⟩
              · rw [hall2]
                simp only [ad, upd_same, Nat.zero_mul, Nat.add_zero]
              · rw [upd_same]
                simp only [Nat.zero_mul, Nat.zero_add]
                omega
            · exact newrow _ cap' hsv c1 (by omega)
        · exact (T.bad_some h).elim
    · exact (T.bad_some h).elim
  · exact (T.bad_some h).elim

omit hG in
/-- a write into an own slice of cells -/
theorem sl_write {S : Nat → Prop} {f : Fn} {z : Z} {w : World} (hr : Rel S f st.nx z w st.H) (hno : ∀ b, st.nx ≤ b → ¬ (st.H.get b).live) {b a j : Nat} (hS : S b) {l : List CV} {vs : List Value} {ob : Ob}
    (hw : ((st.H.get b).wr 0 a j l).res = some ob) (hl : RL f st.nx z l vs) {esc : Bool} (hesc : esc = false → l.any (CV.beyond (b + 1)) = false) :
    (storeCells (ad f b 0 a j) vs).run P w = .ok () (w.setCells (f b).k ((f b).d + (a * 0 + j)) vs) ∧ Post S f st.nx z w st.H f st.nx z (w.setCells (f b).k ((f b).d + (a * 0 + j)) vs) (st.H.put b ob) esc ∧ b < st.nx := by
  obtain ⟨hlive, _, _, hex, _⟩ := Ob.wr_ok hw
  obtain ⟨hb, hok⟩ := hr.own b hS hlive
  have hroom : ∀ q, q < vs.length → a * 0 + j + q < (f b).t := fun q hq => by
    obtain ⟨e, he⟩ := hex q (by rw [hl.1]; exact hq)
    have := (hok.cell _ _ _ _ he).1
    omega
  refine ⟨?_, Post.write hS hr hw hl hno hesc, hb⟩
  have := run_storeCells_cells (P := P) (f b).k ((f b).d + (a * 0 + j)) vs 0 w (fun q hq => by
    have := hok.hasCell (hroom q hq)
    rwa [← Nat.add_assoc] at this) (fun q hq => by
    have := (hok.room _ (hroom q hq)).2
    rwa [← Nat.add_assoc] at this) hl.all
  simp only [Nat.add_zero] at this
  exact this

omit hG in
theorem RL.take {f : Fn} {nx : Nat} {z : Z} {l : List CV} {vs : List Value} (h : RL f nx z l vs) (n : Nat) : RL f nx z (l.take n) (vs.take n) := by
  have := h.part 0 n
  simpa using this

theorem op_copy {c : Call} (ho : o.op = .call c) (hc : c.callee = .builtin .copy) {t0 : Nat} {r0 : List Nat} (hts : c.argTypes.toList = t0 :: r0) {d x : CV} (hargs : c.args.toList.map st.val = [.v (.one d), .v (.one x)])
    (h : (evCopy G st t0 d x).res = some u) : OpOk P o st u := by
  intro f z w a ht hr hno K Q hk
  obtain ⟨dv, xv, hav, hdv, hxv⟩ := two_args ht hargs
  have hat : c.argTypes[0]? = some t0 := by
    have : c.argTypes.toList[0]? = some t0 := by rw [hts]; rfl
    simpa using this
  obtain ⟨kk, hrun⟩ := run_builtin (P := P) (a := a) (w := w) ho hc
  rw [hav] at hrun
  have fin : ∀ q w', (Builtin.copy_ c.argTypes o.type #[dv, xv]).run P w = .ok q w' → (execOp a.eval o).run P w = .ok (.value q) w' := fun q w' hq => by
    rw [hrun]
    exact run_v hq
  unfold evCopy at h
  split at h
  · rename_i sz0 by0 z0 e ag0 eq0 hi0
    have hT := hG.ti t0 _ hi0
    obtain ⟨d', hd, hk0, _⟩ := hT.und
    have := kindOf_slice hk0
    subst this
    split at h
    · exact (T.bad_some h).elim
    rename_i ei hei
    have hE := hG.ti e ei hei
    have h0 := T.bind_some h
    clear h
    obtain ⟨⟨src, fx⟩, hsrc, h⟩ := h0
    dsimp only at h
    have und : (underlying t0).run P w = .ok (.slice e) w := by simp [underlying, Sem.run_bind, Result.andThen, hd]
    have hsz := hE.run_sizeOf w
    -- onto nothing
    have nothing : ∀ base, dv = .slice base 0 0 → Sx u.fp u.wr = Sx fx [] → u = ⟨.one (.int .i64 0), st.H, st.nx, false, fx, []⟩ → o.wp P a w K Q := by
      rintro base rfl hsx rfl
      obtain ⟨g, h1, h2⟩ := srcOf_lay hsrc hr (fun b hb => .inl hb) hxv
      have h3 := lay_first (P := P) h1 w (fun _ => rfl) (Nat.zero_le src.n)
      have h4 := lay_len (P := P) h1 w
      refine wp_value (fin (.int .i64 0) w ?_) (hk f z w _ (Post.refl hr hno) (RF.lit _ rfl))
      simp only [Builtin.copy_, hat, List.getElem?_toArray, List.getElem?_cons_zero, List.getElem?_cons_succ, Sem.run_bind, und, Result.andThen_ok, h4, hsz]
      rw [show Nat.min src.n 0 = 0 from Nat.min_zero _, h3]
      cases base <;> simp [storeCells, Sem.run_bind, goInt]
    split at h
    · have h := T.ret_some h
      exact nothing none (lit_ok hdv) (by rw [← h]) h.symm
    · have h := T.ret_some h
      cases hdv with
      | z0n => exact nothing none rfl (by rw [← h]) h.symm
      | z0s ad => exact nothing (some ad) rfl (by rw [← h]) h.symm
    · rename_i nil b c' j len cap ex s' n l
      split at h
      · exact (T.bad_some h).elim
      rename_i hss
      have hss := nbeq hss
      subst hss
      have h0 := T.need_some h
      clear h
      obtain ⟨hnil, h⟩ := h0
      have hnil : nil = false := by simpa using hnil
      subst hnil
      have h0 := T.bind_some h
      clear h
      obtain ⟨ob, hw, h⟩ := h0
      rw [Heap.putK_eq] at h
      have h := T.ret_some h
      subst h
      obtain ⟨g, h1, h2⟩ := srcOf_lay hsrc hr (fun q hq => .inl (by simp [hq])) hxv
      obtain ⟨hb, _, hX1⟩ := hdv
      obtain ⟨cap', rfl, c1, c2, c3, c4⟩ := hX1 rfl
      have hkn : Nat.min n len ≤ n := Nat.min_le_left _ _
      have h3 := lay_first (P := P) h1 w (fun _ => rfl) (show Nat.min n len ≤ (Src.flat n l).n from hkn)
      have h4 := lay_len (P := P) h1 w
      simp only [Src.n] at h2 h4
      have htake : ((List.range (n * ei.size)).map g).take (Nat.min n len * ei.size) = (List.range (Nat.min n len * ei.size)).map g := by
        rw [← List.map_take, List.take_range]
        congr 2
        exact Nat.min_eq_left (Nat.mul_le_mul_right _ hkn)
      have hrl := RL.take h2.2 (Nat.min n len * ei.size)
      rw [htake] at hrl
      have hS : Sx (b :: fx) [b] b := .inl (by simp)
      obtain ⟨hst, hpost, _⟩ := sl_write (P := P) hr hno hS hw hrl (esc := false || (Src.flat n l).esc (b + 1)) (fun he => by
        simp only [Bool.or_eq_false_iff] at he
        have := he.2
        simp only [Src.esc, List.any_eq_false] at this ⊢
        exact fun y hy => this y (List.mem_of_mem_take hy))
      refine wp_value (fin (.int .i64 (Nat.min n len : Nat)) _ ?_) (hk f z _ _ hpost (RF.lit _ rfl))
      simp only [Builtin.copy_, hat, List.getElem?_toArray, List.getElem?_cons_zero, List.getElem?_cons_succ, Sem.run_bind, und, Result.andThen_ok, h4, hsz, h3, hst]
      rfl
    · exact (T.bad_some h).elim
  · exact (T.bad_some h).elim

theorem op_clear {c : Call} (ho : o.op = .call c) (hc : c.callee = .builtin .clear) {t0 : Nat} {r0 : List Nat} (hts : c.argTypes.toList = t0 :: r0) {d : CV} (hargs : c.args.toList.map st.val = [.v (.one d)])
    (h : (evClear G st t0 d).res = some u) : OpOk P o st u := by
  intro f z w a ht hr hno K Q hk
  obtain ⟨dv, hav, hdv⟩ := one_arg ht hargs
  have hat : c.argTypes[0]? = some t0 := by
    have : c.argTypes.toList[0]? = some t0 := by rw [hts]; rfl
    simpa using this
  obtain ⟨kk, hrun⟩ := run_builtin (P := P) (a := a) (w := w) ho hc
  rw [hav] at hrun
  have fin : ∀ q w', (Builtin.clear_ c.argTypes o.type #[dv]).run P w = .ok q w' → (execOp a.eval o).run P w = .ok (.value q) w' := fun q w' hq => by
    rw [hrun]
    exact run_v hq
  unfold evClear at h
  split at h
  · rename_i sz0 by0 z0 e ag0 eq0 hi0
    have hT := hG.ti t0 _ hi0
    obtain ⟨d', hd, hk0, _⟩ := hT.und
    have := kindOf_slice hk0
    subst this
    split at h
    · exact (T.bad_some h).elim
    rename_i ei hei
    have hE := hG.ti e ei hei
    have und : (underlying t0).run P w = .ok (.slice e) w := by simp [underlying, Sem.run_bind, Result.andThen, hd]
    have nothing : ∀ base cap, dv = .slice base 0 cap → u = ⟨.tup [], st.H, st.nx, false, [], []⟩ → o.wp P a w K Q := by
      rintro base cap rfl rfl
      refine wp_value (fin (.tuple #[]) w ?_) (hk f z w _ (Post.refl hr hno) ⟨#[], rfl, RAs.nil⟩)
      cases base <;> simp [Builtin.clear_, hat, Sem.run_bind, und]
    split at h
    · exact nothing none 0 (lit_ok hdv) (T.ret_some h).symm
    · have h := T.ret_some h
      cases hdv with
      | z0n => exact nothing none 0 rfl h.symm
      | z0s ad => exact nothing (some ad) 0 rfl h.symm
    · have h := T.ret_some h
      cases hdv with
      | fsn => exact nothing none 0 rfl h.symm
      | fs0 _ _ ad cap => exact nothing (some ad) cap rfl h.symm
      | fss _ _ _ k o cap => exact nothing _ cap rfl h.symm
    · rename_i nil b c' j len cap ex s'
      split at h
      · exact (T.bad_some h).elim
      rename_i hss
      have hss := nbeq hss
      subst hss
      have h0 := T.need_some h
      clear h
      obtain ⟨hnil, h⟩ := h0
      have hnil : nil = false := by simpa using hnil
      subst hnil
      have h0 := T.bind_some h
      clear h
      obtain ⟨ob, hw, h⟩ := h0
      rw [Heap.putK_eq] at h
      have h := T.ret_some h
      subst h
      obtain ⟨hb, _, hX1⟩ := hdv
      obtain ⟨cap', rfl, c1, c2, c3, c4⟩ := hX1 rfl
      by_cases hl0 : len = 0
      · subst hl0
        have hS : Sx [b] [b] b := .inl (by simp)
        obtain ⟨hst, hpost, _⟩ := sl_write (P := P) hr hno hS hw (vs := []) (by simpa using RL.nil) (esc := false) (fun _ => by simp)
        have hsame : w.setCells (f b).k ((f b).d + (c' * 0 + j)) [] = w := rfl
        rw [hsame] at hpost
        refine wp_value (fin (.tuple #[]) w ?_) (hk f z w _ hpost ⟨#[], rfl, RAs.nil⟩)
        simp [Builtin.clear_, hat, Sem.run_bind, und]
      · obtain ⟨zv, hz1, hz2⟩ := hE.run_zero w
        have hzc : (Builtin.zeroCells zv.cells len).toList = (List.replicate len ei.zero).flatten := by
          have hzz : zv.cells = ei.zero.toArray := by rw [← hz2]
          rw [hzz]
          by_cases h0 : ei.zero.toArray.size = 0
          · have : ei.zero = [] := by rw [← List.length_eq_zero_iff]; simpa using h0
            simp [Builtin.zeroCells, this]
          · have := repl_zero ei.zero.toArray len h0
            simpa [Builtin.zeroCells] using this
        have hS : Sx [b] [b] b := .inl (by simp)
        obtain ⟨hst, hpost, _⟩ := sl_write (P := P) hr hno hS hw (vs := (List.replicate len ei.zero).flatten) ((RL.lits hE.one).repl len) (esc := false) (fun _ => by
          rw [List.any_eq_false]
          intro y hy
          rw [List.mem_flatten] at hy
          obtain ⟨l, hl, hy⟩ := hy
          rw [List.mem_replicate] at hl
          rw [hl.2] at hy
          simp only [zeros, List.mem_map] at hy
          obtain ⟨_, _, rfl⟩ := hy
          simp [CV.beyond])
        refine wp_value (fin (.tuple #[]) _ ?_) (hk f z _ _ hpost ⟨#[], rfl, RAs.nil⟩)
        obtain ⟨len, rfl⟩ : ∃ q, len = q + 1 := ⟨len - 1, by omega⟩
        simp only [Builtin.clear_, hat, List.getElem?_toArray, List.getElem?_cons_zero, Sem.run_bind, und, Result.andThen_ok, hz1, hzc, hst]
        rfl
    · rename_i nil b m c' len cap ex s'
      split at h
      · rename_i live z' N g hss hgb
        split at h
        · rename_i hzs
          simp only [Bool.and_eq_true] at hss
          have hs1 := nbeq hss.1
          have hs2 := nbeq hss.2
          have hs3 := nbeq hzs
          subst hs1
          subst hs3
          have h0 := T.need_some h
          clear h
          obtain ⟨hq, h⟩ := h0
          simp only [Bool.and_eq_true, Bool.not_eq_true'] at hq
          obtain ⟨⟨hnil, hlv⟩, hle⟩ := hq
          have hle := nble hle
          subst hnil
          subst hlv
          rw [Heap.putK_eq] at h
          have h := T.ret_some h
          subst h
          rw [show m.succ = ei.size from hs2] at hdv
          obtain ⟨hb, _, hX1⟩ := hdv
          obtain ⟨cap', rfl, c1, c2, c3, c4⟩ := hX1 rfl
          have hlive : (st.H.get b).live := by rw [hgb]; rfl
          have hS : Sx [b] [b] b := .inl (by simp)
          have hzlen : (zeros ei).length = ei.zero.length := by simp [zeros]
          by_cases hl0 : len = 0
          · subst hl0
            have hpost := Post.write2 (B := 0) (vs := []) (us := []) (o' := .arr true ei.size N fun i => iteL (Nat.ble c' i && Nat.ble (i + 1) (c' + 0)) (ei.zero.map .lit) (g i)) (esc := false) hS hr hlive (fun h => h) (fun q hq => absurd hq (Nat.not_lt_zero q)) (fun m' i' j' x hx => by
              refine .inr ⟨?_, fun q hq => absurd hq (Nat.not_lt_zero q)⟩
              rw [hgb]
              have hc : (Nat.ble c' i' && Nat.ble (i' + 1) (c' + 0)) = false := by
                cases hb1 : Nat.ble c' i'
                · rfl
                · have h1 := nble hb1
                  rw [Bool.true_and]
                  cases hb2 : Nat.ble (i' + 1) (c' + 0)
                  · rfl
                  · have h2 := nble hb2
                    omega
              simpa only [Ob.at, iteL_eq, hc] using hx) (fun l h => by cases h) RL.nil hno
            have hsame : w.setCells (f b).k ((f b).d + 0) [] = w := rfl
            rw [hsame] at hpost
            refine wp_value (fin (.tuple #[]) w ?_) (hk f z w _ hpost ⟨#[], rfl, RAs.nil⟩)
            simp [Builtin.clear_, hat, Sem.run_bind, und]
          · obtain ⟨zv, hz1, hz2⟩ := hE.run_zero w
            have hzc : (Builtin.zeroCells zv.cells len).toList = (List.replicate len ei.zero).flatten := by
              have hzz : zv.cells = ei.zero.toArray := by rw [← hz2]
              rw [hzz]
              by_cases h0 : ei.zero.toArray.size = 0
              · have : ei.zero = [] := by rw [← List.length_eq_zero_iff]; simpa using h0
                simp [Builtin.zeroCells, this]
              · have := repl_zero ei.zero.toArray len h0
                simpa [Builtin.zeroCells] using this
            have hzl : ei.zero.length = ei.size := hE.len
            have hrl : RL f st.nx z (List.replicate len (zeros ei)).flatten (List.replicate len ei.zero).flatten := (RL.lits hE.one).repl len
            have hul : (List.replicate len ei.zero).flatten.length = len * ei.size := by rw [List.length_flatten, List.map_replicate, List.sum_replicate_nat, hzl]
            obtain ⟨_, hok⟩ := hr.own b hS hlive
            have hroom : ∀ q, q < len * ei.size → c' * ei.size + q < (f b).t := fun q hq => by
              have := Nat.mul_le_mul_right ei.size c1
              omega
            have hroom' : ∀ q, q < (List.replicate len ei.zero).flatten.length → c' * ei.size + q < (f b).t := fun q hq => hroom q (by rw [← hul]; exact hq)
            have hsz : 0 < ei.size := by omega
            have hrep : ∀ (n i j : Nat), i < n → j < ei.size → ((List.replicate n (zeros ei)).flatten)[i * ei.size + j]? = (zeros ei)[j]? := by
              intro n
              induction n with
              | zero => intro i j hi; exact absurd hi (Nat.not_lt_zero i)
              | succ n ih =>
                intro i j hi hj
                rw [List.replicate_succ, List.flatten_cons]
                cases i with
                | zero => rw [Nat.zero_mul, Nat.zero_add, List.getElem?_append_left (by rw [hzlen, hzl]; exact hj)]
                | succ i =>
                  rw [List.getElem?_append_right (by rw [hzlen, hzl, Nat.succ_mul]; omega), hzlen, hzl, show (i + 1) * ei.size + j - ei.size = i * ei.size + j by rw [Nat.succ_mul]; omega]
                  exact ih i j (by omega) hj
            have hst := run_storeCells_cells (P := P) (f b).k ((f b).d + c' * ei.size) (List.replicate len ei.zero).flatten 0 w (fun q hq => by
              have := hok.hasCell (hroom' q hq)
              rwa [← Nat.add_assoc] at this) (fun q hq => by
              have := (hok.room _ (hroom' q hq)).2
              rwa [← Nat.add_assoc] at this) hrl.all
            simp only [Nat.add_zero] at hst
            have hpost := Post.write2 (B := c' * ei.size) (o' := .arr true ei.size N fun i => iteL (Nat.ble c' i && Nat.ble (i + 1) (c' + len)) (ei.zero.map .lit) (g i)) (esc := false) hS hr hlive (fun h => h) hroom' (fun m' i' j' x hx => by
              simp only [Ob.at, iteL_eq] at hx
              split at hx
              · rename_i hcond
                obtain ⟨_, rfl, hiN, hj⟩ := hcond
                cases hc : (Nat.ble c' i' && Nat.ble (i' + 1) (c' + len)) with
                | true =>
                  rw [hc] at hx
                  simp only [Bool.and_eq_true] at hc
                  have h1 := nble hc.1
                  have h2 := nble hc.2
                  left
                  refine ⟨(i' - c') * ei.size + j', ?_, ?_⟩
                  · obtain ⟨d, rfl⟩ := Nat.exists_eq_add_of_le h1
                    rw [Nat.add_sub_cancel_left, Nat.add_mul]; omega
                  · rw [hrep len (i' - c') j' (by omega) hj]
                    simp only [zeros, List.getElem?_map, Option.map_map] at hx ⊢
                    exact hx
                | false =>
                  rw [hc] at hx
                  right
                  refine ⟨by rw [hgb]; simp only [Ob.at, hiN, hj, and_self, if_true]; exact hx, fun q hq => ?_⟩
                  rw [hul] at hq
                  have hor : i' < c' ∨ c' + len ≤ i' := by
                    rcases Nat.lt_or_ge i' c' with h | h
                    · exact .inl h
                    · rw [Nat.ble_eq_true_of_le h, Bool.true_and] at hc
                      right
                      rcases Nat.lt_or_ge i' (c' + len) with h2 | h2
                      · rw [Nat.ble_eq_true_of_le h2] at hc; cases hc
                      · exact h2
                  rcases hor with h | h
                  · have := Nat.mul_le_mul_right ei.size (show i' + 1 ≤ c' from h)
                    rw [Nat.succ_mul] at this
                    omega
                  · have := Nat.mul_le_mul_right ei.size h
                    rw [Nat.add_mul] at this
                    omega
              · cases hx) (fun l h => by cases h) hrl hno
            refine wp_value (fin (.tuple #[]) _ ?_) (hk f z _ _ hpost ⟨#[], rfl, RAs.nil⟩)
            obtain ⟨len, rfl⟩ : ∃ q, len = q + 1 := ⟨len - 1, by omega⟩
            simp only [Builtin.clear_, hat, List.getElem?_toArray, List.getElem?_cons_zero, Sem.run_bind, und, Result.andThen_ok, hz1, hzc, ad, Nat.add_zero, hs2, hst]
            rfl
        · exact (T.bad_some h).elim
      · exact (T.bad_some h).elim
    · exact (T.bad_some h).elim
  · exact (T.bad_some h).elim

theorem op_len {c : Call} (ho : o.op = .call c) (hc : c.callee = .builtin .len) {t0 : Nat} {r0 : List Nat} (hts : c.argTypes.toList = t0 :: r0) {x : SV} (hargs : c.args.toList.map st.val = [x])
    (h : ((evLen G t0 x).bind fun v => pure1 st (.one v)).res = some u) : OpOk P o st u := by
  obtain ⟨r, hr, h⟩ := T.bind_some h
  have := T.ret_some h
  subst this
  refine OpOk.pure fun f z w a ht => ?_
  obtain ⟨xv, hav, hxv⟩ := one_arg ht hargs
  have hat : c.argTypes[0]? = some t0 := by
    have : c.argTypes.toList[0]? = some t0 := by rw [hts]; rfl
    simpa using this
  obtain ⟨kk, hrun⟩ := run_builtin (P := P) (a := a) (w := w) ho hc
  rw [hav] at hrun
  have fin : ∀ q, (Builtin.len_ c.argTypes o.type #[xv]).run P w = .ok q w → (execOp a.eval o).run P w = .ok (.value q) w := fun q hq => by
    rw [hrun]
    exact run_v hq
  unfold evLen at hr
  split at hr
  · exact (T.bad_some hr).elim
  rename_i ti hti
  have hT := hG.ti t0 ti hti
  obtain ⟨d, h1, h2, _, h0⟩ := hT.run_und w
  split at hr
  · rename_i s hk
    have hr := T.ret_some hr
    subst hr
    have := kindOf_str (h2.trans hk)
    subst this
    have := lit_ok hxv
    subst this
    exact ⟨_, fin _ (by simp [Builtin.len_, hat, Sem.run_bind, h1, goInt]), RF.lit _ rfl⟩
  · rename_i n e hk
    have hr := T.ret_some hr
    subst hr
    have := kindOf_array (h2.trans hk)
    subst this
    refine ⟨.int .i64 n, fin _ ?_, RF.lit _ rfl⟩
    simp only [Builtin.len_, hat, List.getElem?_toArray, List.getElem?_cons_zero, Sem.run_bind, h1, Result.andThen_ok]
    rfl
  · rename_i e n cp hk
    have hr := T.ret_some hr
    subst hr
    have := kindOf_slice (h2.trans hk)
    subst this
    have := lit_ok hxv
    subst this
    exact ⟨_, fin _ (by simp [Builtin.len_, hat, Sem.run_bind, h1, goInt]), RF.lit _ rfl⟩
  · rename_i e nil hk
    have hr := T.ret_some hr
    subst hr
    have := kindOf_slice (h2.trans hk)
    subst this
    cases hxv <;> exact ⟨.int .i64 0, fin _ (by simp [Builtin.len_, hat, Sem.run_bind, h1, goInt]), RF.lit _ rfl⟩
  · rename_i e nil sz n g hk
    have hr := T.ret_some hr
    subst hr
    have := kindOf_slice (h2.trans hk)
    subst this
    cases hxv <;> exact ⟨_, fin _ (by simp [Builtin.len_, hat, Sem.run_bind, h1, goInt]), RF.lit _ rfl⟩
  · rename_i e nil b m i j len cap ex sz hk
    have hr := T.ret_some hr
    subst hr
    have := kindOf_slice (h2.trans hk)
    subst this
    obtain ⟨_, hX0, hX1⟩ := hxv
    cases nil with
    | true =>
      obtain ⟨rfl, _, rfl⟩ := hX0 rfl
      exact ⟨.int .i64 0, fin _ (by simp [Builtin.len_, hat, Sem.run_bind, h1, goInt]), RF.lit _ rfl⟩
    | false =>
      obtain ⟨cap', rfl, _⟩ := hX1 rfl
      exact ⟨.int .i64 len, fin _ (by simp [Builtin.len_, hat, Sem.run_bind, h1, goInt]), RF.lit _ rfl⟩
  · exact (T.bad_some hr).elim

theorem op_cap {c : Call} (ho : o.op = .call c) (hc : c.callee = .builtin .cap) {t0 : Nat} {r0 : List Nat} (hts : c.argTypes.toList = t0 :: r0) {x : SV} (hargs : c.args.toList.map st.val = [x])
    (h : ((evCap G t0 x).bind fun v => pure1 st (.one v)).res = some u) : OpOk P o st u := by
  obtain ⟨r, hr, h⟩ := T.bind_some h
  have := T.ret_some h
  subst this
  refine OpOk.pure fun f z w a ht => ?_
  obtain ⟨xv, hav, hxv⟩ := one_arg ht hargs
  have hat : c.argTypes[0]? = some t0 := by
    have : c.argTypes.toList[0]? = some t0 := by rw [hts]; rfl
    simpa using this
  obtain ⟨kk, hrun⟩ := run_builtin (P := P) (a := a) (w := w) ho hc
  rw [hav] at hrun
  have fin : ∀ q, (Builtin.cap_ c.argTypes o.type #[xv]).run P w = .ok q w → (execOp a.eval o).run P w = .ok (.value q) w := fun q hq => by
    rw [hrun]
    exact run_v hq
  unfold evCap at hr
  split at hr
  · exact (T.bad_some hr).elim
  rename_i ti hti
  have hT := hG.ti t0 ti hti
  obtain ⟨d, h1, h2, _, h0⟩ := hT.run_und w
  split at hr
  · rename_i e n cp hk
    have hr := T.ret_some hr
    subst hr
    have := kindOf_slice (h2.trans hk)
    subst this
    have := lit_ok hxv
    subst this
    exact ⟨_, fin _ (by simp [Builtin.cap_, hat, Sem.run_bind, h1, goInt]), RF.lit _ rfl⟩
  · rename_i e nil hk
    have hr := T.ret_some hr
    subst hr
    have := kindOf_slice (h2.trans hk)
    subst this
    cases hxv <;> exact ⟨.int .i64 0, fin _ (by simp [Builtin.cap_, hat, Sem.run_bind, h1, goInt]), RF.lit _ rfl⟩
  · rename_i e nil b m i j len cap sz hk
    have hr := T.ret_some hr
    subst hr
    have := kindOf_slice (h2.trans hk)
    subst this
    obtain ⟨_, hX0, hX1⟩ := hxv
    cases nil with
    | true =>
      obtain ⟨rfl, rfl, rfl⟩ := hX0 rfl
      exact ⟨.int .i64 0, fin _ (by simp [Builtin.cap_, hat, Sem.run_bind, h1, goInt]), RF.lit _ rfl⟩
    | false =>
      obtain ⟨cap', rfl, hcap⟩ := hX1 rfl
      have := hcap.2.2.1 rfl
      subst this
      exact ⟨.int .i64 _, fin _ (by simp [Builtin.cap_, hat, Sem.run_bind, h1, goInt]), RF.lit _ rfl⟩
  · exact (T.bad_some hr).elim

theorem op_convert {s t : Nat} {x : Operand} (ho : o.op = .convert s t x) {p : CV} (hp : st.val x = .v (.one p)) (h : (evConvert G st s t p).res = some u) : OpOk P o st u := by
  unfold evConvert at h
  split at h
  · rename_i ia ib ha hb
    have hA := hG.ti s ia ha
    have hB := hG.ti t ib hb
    split at h
    · rename_i k0 k kk n e1 e2
      have := T.ret_some h
      subst this
      refine OpOk.pure fun f z w a ht => ?_
      have hX := val_ok ht x
      rw [hp] at hX
      have hX := lit_ok hX
      obtain ⟨d, h1, h2, _, h0⟩ := hA.run_und w
      obtain ⟨d', h1', h2', _, h0'⟩ := hB.run_und w
      have := kindOf_int (h2.trans e1)
      subst this
      have := kindOf_int (h2'.trans e2)
      subst this
      refine ⟨.int k (k.wrap n), ?_, RF.lit _ rfl⟩
      simp only [execOp, ho, hX]
      refine run_v ?_
      simp [convert, Sem.run_bind, h1, h1', Conv.intToInt]
    · rename_i ss e1 e2
      have := T.ret_some h
      subst this
      refine OpOk.pure fun f z w a ht => ?_
      have hX := val_ok ht x
      rw [hp] at hX
      have hX := lit_ok hX
      obtain ⟨d, h1, h2, _, h0⟩ := hA.run_und w
      obtain ⟨d', h1', h2', _, h0'⟩ := hB.run_und w
      have := kindOf_str (h2.trans e1)
      subst this
      have := kindOf_str (h2'.trans e2)
      subst this
      refine ⟨.string ss, ?_, RF.lit _ rfl⟩
      simp only [execOp, ho, hX]
      refine run_v ?_
      simp [convert, Sem.run_bind, h1, h1']
    · rename_i e ss e1 e2
      split at h
      · rename_i y he
        have hE := hG.ti e _ he
        have := T.ret_some h
        subst this
        intro f z w a ht hr hno K Q hk
        have hX := val_ok ht x
        rw [hp] at hX
        have hX := lit_ok hX
        obtain ⟨d, h1, h2, _, h0⟩ := hA.run_und w
        obtain ⟨d', h1', h2', _, h0'⟩ := hB.run_und w
        obtain ⟨de, h1e, h2e, _, h0e⟩ := hE.run_und w
        have := kindOf_str (h2.trans e1)
        subst this
        have := kindOf_slice (h2'.trans e2)
        subst this
        have := kindOf_int h2e
        subst this
        refine wp_value (w' := Lib.bytesWorld w e ss) (v := .slice (some ⟨w.heap.size, 0, none⟩) ss.size (grownCap w ss.size 0 e)) ?_ (hk _ z _ _ (Post.bytes hr hno e ss) ?_)
        · simp only [execOp, ho, hX]
          exact run_v (Lib.run_convert_string_bytes w s t e ss h0 h0' h0e)
        · have hge := grownCap_ge w ss.size 0 e
          refine ⟨Nat.lt_succ_self _, fun hh => (by cases hh), fun _ => ⟨_, (by simp only [ad, upd_same]), hge, hge, fun hh => (by cases hh), ?_⟩⟩
          rw [upd_same]
          simp only [Lib.bytesCells, Array.size_append, Array.size_map, Array.size_replicate]
          have : ss.data.size = ss.size := rfl
          omega
      · exact (T.bad_some h).elim
    · rename_i e e1 e2
      split at h
      · rename_i y he
        have hE := hG.ti e _ he
        split at h
        · exact (T.bad_some h).elim
        rename_i hns
        obtain ⟨⟨src, fp⟩, hsrc, h⟩ := T.bind_some h
        cases src with
        | fn n e' => exact (T.bad_some h).elim
        | flat n l =>
          simp only at h
          split at h
          · rename_i bs hbs
            have := T.ret_some h
            subst this
            intro f z w a ht hr hno K Q hk
            have hX := val_ok ht x
            rw [hp] at hX
            obtain ⟨d, h1, h2, _, h0⟩ := hA.run_und w
            obtain ⟨d', h1', h2', _, h0'⟩ := hB.run_und w
            obtain ⟨de, h1e, h2e, _, h0e⟩ := hE.run_und w
            have := kindOf_slice (h2.trans e1)
            subst this
            have := kindOf_str (h2'.trans e2)
            subst this
            have := kindOf_int h2e
            subst this
            obtain ⟨g, hlay, hok⟩ := srcOf_lay hsrc hr (fun b hb => .inl hb) hX
            refine wp_value (w' := w) (v := .string ⟨bs.toArray⟩) ?_ (hk _ z _ _ (Post.refl hr hno) (RF.lit _ rfl))
            simp only [execOp, ho]
            refine run_v ?_
            exact bytes_str w s t e h0 h0e h0' (srcOf_notStr hsrc (by simpa using hns) hX) hlay hok hbs
          · exact (T.bad_some h).elim
      · exact (T.bad_some h).elim
    · exact (T.bad_some h).elim
  · exact (T.bad_some h).elim

end ops
end Go.Proofs.YtbobakclbdaepaaGreat.En
