/- 'Am': the operations, one by one (eighth part): texts and bytes, closures, slices that are made, copies, rounds through a text, type assertions.
   By the session's AI agent. -/
import Derived.Test.YthhceeaconflnaaDoorAm15
import Derived.Laws.IdiomStrings
import Derived.Laws.StructEq
namespace Go.Am
open Go.RowKit (Below)
set_option linter.unusedVariables false
set_option linter.unusedSimpArgs false
set_option linter.unusedSectionVars false
set_option maxRecDepth 20000

section
variable {N0 : Nat} {P : Program} {w0 : World} {g : G} {e : Env} {a : Act} {h : Hp} {w : World}
variable {o : Oper} {md : Nat} {orc : Orc} {base : Nat} {draw : Bool} {aop : AOp} {v : PV} {e' : Env} {h' : Hp} {gl : Globs} (hgl : GlobOk gl N0 w0)

theorem bytes_get (s : ByteArray) (n : Nat) : ∀ j, j < s.data.toList.length → (bytesRow s n)[j]? = some (.int .u8 ((s.data.toList[j]?.getD 0).toNat : Int)) := by
  intro j hj
  unfold bytesRow
  rw [Array.getElem?_append_left (by simpa using hj)]
  have hj' : j < s.data.size := by simpa using hj
  have hq : s.data[j]? = some s.data[j] := Array.getElem?_eq_getElem hj'
  simp [hq]

include hgl
theorem g_strBytes (k : Ok (N0 := N0) w0 g e a.tmps h w) {s d el : TypeId} {x : Operand} (ho : o.op = .convert s d x) (hs0 : P.underlying s = some .string) (hd : P.underlying d = some (.slice el)) (hel : P.underlying el = some (.int .u8))
    {x' : Opnd} (hx : cOpnd gl x = some x') {bx : Bool} (hs : step orc base draw (.strBytes bx x') e h = some (v, e', h')) : Gives N0 P w0 g a w (execOp a.eval o) v e' h' := by
  simp only [step, Option.bnd_eq_some_iff] at hs
  obtain ⟨p, hp, hs⟩ := hs
  have h1 := rv_ev hgl k hx hp
  generalize hA : a.eval x = A at h1
  cases h1 <;> (try simp only at hs) <;> (try cases hs)
  rename_i l q hl
  split at hs
  · rename_i hlim
    have hlen : l.length = q.size := by rw [← hl]; simp
    have hrun := run_bytes_of_string (P := P) w s d el q hs0 hd hel
    have hex : (execOp a.eval o).run P w = .ok (.value (.slice (some ⟨w.heap.size, 0, none⟩) q.size (grownCap w q.size 0 el)))
      (w.drew.alloc (.cells (bytesRow q (grownCap w q.size 0 el)) el ((bytesRow q (grownCap w q.size 0 el)).size, (bytesRow q (grownCap w q.size 0 el)).size + 1))) := by
      simp only [execOp, ho, hA, Sem.run_bind, hrun, Result.andThen, Sem.run_pure]
    have hcap : q.size ≤ grownCap w q.size 0 el := grown_le _ _ _ _
    have hget : ∀ j, j < l.length → (bytesRow q (grownCap w q.size 0 el))[j]? = some (.int .u8 ((l[j]?.getD 0).toNat : Int)) := by
      intro j hj
      have := bytes_get q (grownCap w q.size 0 el) j (by rw [hl]; exact hj)
      rw [hl] at this
      exact this
    have hsz : l.length ≤ (bytesRow q (grownCap w q.size 0 el)).size := by
      rw [hlen]; unfold bytesRow; simp
    cases bx with
    | true =>
      simp only [if_true, Option.some.injEq, Prod.mk.injEq] at hs
      obtain ⟨rfl, rfl, rfl⟩ := hs
      obtain ⟨g', hx1, hok, hn', hι⟩ := ok_alloc k _ el (l.map fun c => .int .u8 c.toNat) (by simpa using hsz) (fun j y hy => by
        rw [List.getElem?_map, Option.map_eq_some_iff] at hy
        obtain ⟨c, hc, rfl⟩ := hy
        have hj : j < l.length := (List.getElem?_eq_some_iff.1 hc).1
        rw [Array.getD_eq_getD_getElem?, hget j hj, hc]
        exact .int _ _) (fun T' hT => by rw [List.getElem?_map, Option.map_eq_some_iff] at hT; obtain ⟨c, _, hc⟩ := hT; cases hc) (fun _ => Nat.le_refl _) (.inr rfl)
      refine ⟨_, _, _, g', hex, .inl rfl, hx1, hok, ?_⟩
      rw [← hlen, ← hι]
      exact .bsl false (size h) 0 l.length 1 _ (by omega) (by rw [hlen]; exact hcap) (by simp)
    | false =>
      simp only [Bool.false_eq_true, if_false, Option.some.injEq, Prod.mk.injEq] at hs
      obtain ⟨rfl, rfl, rfl⟩ := hs
      obtain ⟨g', hx1, hok, hhw⟩ := ok_fixed k _ el l.length _ (.inr rfl)
      refine ⟨_, _, _, g', hex, .inl rfl, hx1, hok, ?_⟩
      have hm : MadeBy w _ (.cells (bytesRow q (grownCap w q.size 0 el)) el ((bytesRow q (grownCap w q.size 0 el)).size, (bytesRow q (grownCap w q.size 0 el)).size + 1)) := .inr rfl
      have := RV.sl (N0 := N0) (g := g') (w := w.drew.alloc (.cells (bytesRow q (grownCap w q.size 0 el)) el ((bytesRow q (grownCap w q.size 0 el)).size, (bytesRow q (grownCap w q.size 0 el)).size + 1))) .no 1 (l.map fun c => .int .u8 c.toNat) w.heap.size 0 (grownCap w q.size 0 el)
        (fun i j => .int .u8 ((l[i]?.getD 0).toNat : Int)) (by simp [hlen]; exact hcap) (by simp) (fun i y hy => by
          rw [List.getElem?_map, Option.map_eq_some_iff] at hy
          obtain ⟨c, hc, rfl⟩ := hy; rfl) (fun i j hi hj => by
          obtain rfl : j = 0 := by omega
          simp only [List.length_map] at hi
          simp only [World.cell?, hm.at, Nat.mul_one, Nat.add_zero, Nat.zero_add, Option.isSome_none, Bool.false_eq_true, if_false]
          exact hget i hi) (fun i j y z hy hz => by
          rw [List.getElem?_map, Option.map_eq_some_iff] at hy
          obtain ⟨c, hc, rfl⟩ := hy
          cases j with
          | zero => simp [PV.cells] at hz; subst hz; rw [hc]; exact .int _ _
          | succ j => simp [PV.cells] at hz) (fun _ => .inr ⟨_, hhw, by simp⟩) none (fun _ => rfl) (by simp)
      simp only [List.length_map, hlen] at this
      exact this
  · cases hs

omit hgl in
theorem bytesOf_all : ∀ (es : List PV) (l : List UInt8), bytesOf es = some l → es.length = l.length ∧ ∀ (j : Nat) (x : PV), es[j]? = some x → ∃ n, x = .int .u8 n ∧ l[j]? = some (UInt8.ofNat n.toNat)
  | [], l, h => by simp [bytesOf] at h; subst h; exact ⟨rfl, fun j x hx => by simp at hx⟩
  | x :: es, l, h => by
    unfold bytesOf at h
    split at h
    · cases ‹_ :: _ = _›
    · rename_i n r heq
      cases heq
      simp only [Option.map_eq_some_iff] at h
      obtain ⟨l', h1, rfl⟩ := h
      obtain ⟨q1, q2⟩ := bytesOf_all es l' h1
      refine ⟨by simp [q1], fun j y hy => ?_⟩
      cases j with
      | zero => simp at hy; subst hy; exact ⟨n, rfl, rfl⟩
      | succ j => simpa using q2 j y (by simpa using hy)
    · cases h

theorem g_bytesStr (k : Ok (N0 := N0) w0 g e a.tmps h w) {s d el : TypeId} {x : Operand} (ho : o.op = .convert s d x) (hs0 : P.underlying s = some (.slice el)) (hel : P.underlying el = some (.int .u8)) (hd : P.underlying d = some .string)
    {x' : Opnd} (hx : cOpnd gl x = some x') (hs : step orc base draw (.bytesStr x') e h = some (v, e', h')) : Gives N0 P w0 g a w (execOp a.eval o) v e' h' := by
  simp only [step, Option.bnd_eq_some_iff] at hs
  obtain ⟨p, hp, hs⟩ := hs
  have h1 := rv_ev hgl k hx hp
  obtain ⟨es, hes, l, hl, rfl, rfl, rfl⟩ : ∃ es, elems h p = some es ∧ ∃ l, bytesOf es = some l ∧ .str l = v ∧ e = e' ∧ h = h' := by
    cases p <;> first | (simp only at hs; cases hs; done) | (simp only [Option.bnd_eq_some_iff, Option.some.injEq, Prod.mk.injEq] at hs; obtain ⟨es, q1, l, q2, q3, q4, q5⟩ := hs; exact ⟨es, q1, l, q2, q3, q4, q5⟩)
  have hnstr : ∀ s, p ≠ .str s := by intro s hq; subst hq; simp at hs
  obtain ⟨l1, l2⟩ := bytesOf_all es l hl
  have hall : es.all (fun x => x.cells.length == 1) = true := by
    rw [List.all_eq_true]
    intro y hy
    obtain ⟨j, hj⟩ := List.mem_iff_getElem?.1 hy
    obtain ⟨n, rfl, _⟩ := l2 j y hj
    rfl
  obtain ⟨hlen, news, hnew, hH⟩ := src_rv (P := P) k (sz := 1) (by omega) h1 hes hall
  have hnv : ∀ j, j < es.length → ∃ n : Int, news.getD j Go.undef = .int .u8 n ∧ l[j]? = some (UInt8.ofNat n.toNat) := by
    intro j hj
    obtain ⟨n, hn, hln⟩ := l2 j es[j] (List.getElem?_eq_getElem hj)
    have := hH.2.2 j 0 es[j] (.int .u8 n) (List.getElem?_eq_getElem hj) (by rw [hn]; rfl)
    rw [Nat.mul_one, Nat.add_zero] at this
    exact ⟨n, rv_int this, hln⟩
  have hnsz : news.size = es.length := by have := hH.1; omega
  let ns : List Int := (List.range es.length).map fun j => match news.getD j Go.undef with | .int _ n => n | _ => 0
  have hns : (ns.map (Value.int .u8)).toArray = news := by
    apply Array.ext_getElem?
    intro j
    by_cases hj : j < es.length
    · obtain ⟨n, q1, _⟩ := hnv j hj
      have q2 : news[j]? = some (.int .u8 n) := by
        have : j < news.size := by omega
        rw [Array.getD_eq_getD_getElem?, Array.getElem?_eq_getElem this] at q1
        rw [Array.getElem?_eq_getElem this]
        simpa using q1
      simp [ns, hj, q2, Array.getD_eq_getD_getElem?]
    · rw [Array.getElem?_eq_none (by simp [ns]; omega), Array.getElem?_eq_none (by omega)]
  have hfold : ∀ (ns : List Int) (r : ByteArray), (ns.foldl (fun r n => r.push (UInt8.ofNat n.toNat)) r).data.toList = r.data.toList ++ ns.map fun n => UInt8.ofNat n.toNat := by
    intro ns
    induction ns with
    | nil => intro r; simp
    | cons n ns ih => intro r; simp only [List.foldl_cons, ih, List.map_cons]; simp [ByteArray.push]
  have hres : ns.map (fun n => UInt8.ofNat n.toNat) = l := by
    apply List.ext_getElem?
    intro j
    by_cases hj : j < es.length
    · obtain ⟨n, q1, q2⟩ := hnv j hj
      simp only [ns, List.map_map, List.getElem?_map, List.getElem?_range hj, Option.map_some, Function.comp, q1, q2]
    · rw [List.getElem?_eq_none (by simp [ns]; omega), List.getElem?_eq_none (by omega)]
  have fin : ∀ (A : Option Addr) (len cap : Nat), a.eval x = .slice A len cap → Gives N0 P w0 g a w (execOp a.eval o) (.str l) e h := by
    intro A len cap hA
    have hc := run_convert_bytes_string (P := P) w s d el A len cap hs0 hel hd
    rw [hA] at hlen hnew
    have hlen' : len = es.length := by simpa [Builtin.lenOf] using hlen
    subst hlen'
    cases A with
    | none =>
      have hn0 := hnew w (.inl rfl)
      simp only [Builtin.firstCells, Sem.run_pure, Result.ok.injEq] at hn0
      have hz : es.length = 0 := by rw [← hnsz, ← hn0.1]; rfl
      have hl0 : l = [] := List.eq_nil_of_length_eq_zero (by omega)
      refine gives_pure (u := .string .empty) k ?_ (.str _ _ (by rw [hl0]; rfl))
      simp only [execOp, ho, hA, Sem.run_bind, hc, Result.andThen, Sem.run_pure, Conv.bytesToString]
    | some A =>
      have hn0 := hnew w (.inl rfl)
      simp only [Builtin.firstCells, Nat.mul_one] at hn0
      rw [← hns] at hn0
      have hb := run_bytesToString (P := P) w A es.length cap ns hn0
      refine gives_pure (u := .string (ns.foldl (fun r n => r.push (UInt8.ofNat n.toNat)) ByteArray.empty)) k ?_ (.str _ _ ?_)
      · simp only [execOp, ho, hA, Sem.run_bind, hc, hb, Result.andThen, Sem.run_pure]
      · rw [hfold, hres]; simp
  generalize hA : a.eval x = A at h1
  cases h1 <;> simp only [elems] at hes <;> (try cases hes)
  case nils => exact fin _ _ _ hA
  case sl => exact fin _ _ _ hA
  case bsl => exact fin _ _ _ hA
  case str => exact (hnstr _ rfl).elim

theorem g_mkfn (k : Ok (N0 := N0) w0 g e a.tmps h w) {f : FuncId} {first cap : Array Operand} (ho : o.op = .makeFunc (.func f) first cap) (hf : first.size = 0) {xs : List Opnd} (hx : cOpnds gl cap.toList = some xs)
    (hs : step orc base draw (.mkfn f xs) e h = some (v, e', h')) : Gives N0 P w0 g a w (execOp a.eval o) v e' h' := by
  simp only [step, Option.bnd_eq_some_iff, Option.some.injEq, Prod.mk.injEq] at hs
  obtain ⟨vs, hvs, rfl, rfl, rfl⟩ := hs
  obtain ⟨h1, h2⟩ := rv_evs hgl k hx hvs
  have hfe : first = #[] := Array.eq_empty_of_size_eq_zero hf
  refine gives_pure (u := .func (.func f) #[] (cap.map a.eval)) k ?_ (.fn f vs _ (by simpa using h1) fun j x hx => ?_)
  · simp only [execOp, ho, Instr.makeFunc, hfe, Sem.run_bind, Sem.run_pure, Result.andThen, Array.map_empty]
  · have := h2 j x hx
    simpa [List.getD_eq_getElem?_getD, Array.getD_eq_getD_getElem?] using this

omit hgl in
theorem rep_get (z : List PV) : ∀ (n j : Nat), (List.flatten (List.replicate n z))[j]? = if j < n * z.length then z[j % z.length]? else none
  | 0, j => by simp
  | n + 1, j => by
    rw [List.replicate_succ, List.flatten_cons]
    by_cases hj : j < z.length
    · rw [List.getElem?_append_left hj, if_pos (by rw [Nat.succ_mul]; omega), Nat.mod_eq_of_lt hj]
    · rw [List.getElem?_append_right (by omega), rep_get z n, Nat.succ_mul]
      by_cases hk : j - z.length < n * z.length
      · have e := Nat.mod_eq_sub_mod (show j ≥ z.length by omega)
        rw [if_pos hk, if_pos (by omega), e]
      · rw [if_neg hk, if_neg (by omega)]

theorem g_makeSl (k : Ok (N0 := N0) w0 g e a.tmps h w) {t el : TypeId} {len cap : Operand} (ho : o.op = .makeSlice t len cap) (ht : P.underlying t = some (.slice el)) {sz : Nat} (hsz : sizeOf P el = some sz) (hsm : smallBytes P el = true) (hpos : sz ≠ 0)
    {z : List PV} (hz : zeroOf P el = some z) (hzl : z.length = sz) {gg : Bool} {l' c' : Opnd} (hl : cOpnd gl len = some l') (hc : cOpnd gl cap = some c')
    (hs : step orc base draw (.makeSl el z gg l' c') e h = some (v, e', h')) : Gives N0 P w0 g a w (execOp a.eval o) v e' h' := by
  simp only [step, Option.bnd_eq_some_iff] at hs
  obtain ⟨p, hp, q, hq, n, hn, hs⟩ := hs
  have h1 := rv_ev hgl k hl hp
  have h2 := rv_ev hgl k hc hq
  obtain ⟨i, zv, hi, hiz, hzsz, hzr⟩ := rv_zero (N0 := N0) hz
  have hisz : i.size = sz := by simp only [sizeOf, Option.map_eq_some_iff] at hsz; obtain ⟨i', e1, e2⟩ := hsz; rw [hi] at e1; cases e1; exact e2
  have hbytes : i.bytes ≤ 4096 := by simp only [smallBytes, hi, decide_eq_true_eq] at hsm; exact hsm
  generalize hA : a.eval len = A at h1
  generalize hB : a.eval cap = B at h2
  cases h1 <;> cases h2 <;> simp only [makeN] at hn <;> (try cases hn)
  rename_i k1 l k2 c
  split at hn
  · rename_i hb
    obtain ⟨b1, b2, b3⟩ := hb
    simp only [Option.some.injEq] at hn
    subst hn
    unfold lim2 at b3
    let us : Array Value := (Array.range (c.toNat * i.size)).map (zv.cells[· % zv.cells.size]!)
    have huz : zv.cells.size = sz := by rw [hzsz, hzl]
    have hrun : (execOp a.eval o).run P w = .ok (.value (.slice (some ⟨w.heap.size, 0, none⟩) l.toNat c.toNat)) (w.alloc (.cells us el)) := by
      have w1 : IntKind.i64.wrap l = l := by rw [IntKind.wrap_i64]; omega
      have w2 : IntKind.i64.wrap c = c := by rw [IntKind.wrap_i64]; omega
      have hbig' : ¬ (281474976710656 < (i.bytes : Int) * c) := by
        have hcc : c = (c.toNat : Int) := by omega
        have : i.bytes * c.toNat ≤ 4096 * 17179869184 := Nat.mul_le_mul hbytes (by omega)
        rw [hcc]
        have h3 : ((i.bytes * c.toNat : Nat) : Int) ≤ ((4096 * 17179869184 : Nat) : Int) := Int.ofNat_le.2 this
        rw [Int.natCast_mul] at h3
        generalize (i.bytes : Int) * (c.toNat : Int) = z at *
        omega
      have c0 : ¬ c < 0 := by omega
      have l0 : ¬ l < 0 := by omega
      have lc : ¬ l > c := by omega
      have lc' : ¬ c < l := by omega
      by_cases h0 : c.toNat * i.size = 0
      · have hr0 : Array.range 0 = #[] := rfl
        have hu : us = #[] := by simp [us, h0, hr0]
        simp [execOp, ho, hA, hB, Instr.makeSlice, run_underlying ht, typeInfo, hi, asInt, asIntOf, w1, w2, hbig', c0, l0, lc', Go.sizeOf, h0, newRow, hu, hr0]
      · simp [execOp, ho, hA, hB, Instr.makeSlice, run_underlying ht, typeInfo, hi, asInt, asIntOf, w1, w2, hbig', c0, l0, lc', Go.sizeOf, h0, newRow, zeroValue, hiz, us]
    have hum : us.size = c.toNat * sz := by simp [us, hisz]
    have hug : ∀ j, j < c.toNat * sz → us.getD j Go.undef = zv.cells.getD (j % sz) Go.undef := by
      intro j hj
      have hm : j % sz < sz := Nat.mod_lt _ (by omega)
      have hq : (Array.range (c.toNat * i.size))[j]? = some j := by simp [hisz, hj]
      simp only [us, Array.getD_eq_getD_getElem?, Array.getElem?_map, hq, Option.map_some, Option.getD_some, huz]
      have : j % sz < zv.cells.size := by omega
      simp [this]
    simp only at hs
    split at hs
    · rename_i heq
      simp only [Option.some.injEq, Prod.mk.injEq] at hs
      obtain ⟨rfl, rfl, rfl⟩ := hs
      obtain ⟨g', hx1, hok, hn', hι⟩ := ok_alloc k us el (List.flatten (List.replicate l.toNat z)) (by simp [hum, hzl, heq]) (fun j y hy => by
        rw [rep_get, hzl] at hy
        split at hy
        · rename_i hj
          rw [hug j (by rw [← heq]; exact hj)]
          exact hzr g w _ y hy
        · cases hy) (fun T' hT => by
        rw [rep_get] at hT
        split at hT
        · exact (zero_nb hz _ T' hT).elim
        · cases hT) (lo := 0) (hi := 0) (by simp) (.inl rfl)
      refine ⟨_, _, _, g', hrun, .inl rfl, hx1, hok, ?_⟩
      rw [← hι, hzl]
      exact .bsl true (size h) 0 l.toNat sz _ (by omega) (by omega) (fun _ => heq.symm)
    · rename_i hne
      split at hs
      · rename_i h0
        simp only [Option.some.injEq, Prod.mk.injEq] at hs
        obtain ⟨rfl, rfl, rfl⟩ := hs
        have hm : MadeBy w (w.alloc (.cells us el)) (.cells us el) := .inl rfl
        obtain ⟨g', hx1, hok, hn', _, hhw, htk⟩ := ok_newbox k hm (.tok 0 el) (some 0) ⟨0, w.heap.size, 0, c.toNat, sz⟩ (fun n T hn => ⟨rfl, rfl⟩) (fun g' hx1 hι hhw htk => by
          simp only [BoxOk, htk]
          exact ⟨trivial, Nat.zero_le _, ok_size k, by rw [hhw]; simp, trivial, us, 0, 0, hm.at, by rw [hum]; simp, Nat.zero_le _⟩)
        refine ⟨_, _, _, g', hrun, .inl rfl, hx1, hok, ?_⟩
        rw [h0, hzl]
        exact RV.sl (N0 := N0) (g := g') (.tok (size h)) sz [] w.heap.size 0 c.toNat (fun _ _ => Go.undef) (by simp) (by simp) (by simp) (by simp) (by simp) (by simp) none (by simp)
          (fun t ht' => by cases ht'; rw [htk]; exact ⟨by rw [hn']; omega, Nat.le_refl _, fun _ => ⟨rfl, rfl⟩⟩)
      · cases hs
  · cases hn

theorem g_range (k : Ok (N0 := N0) w0 g e a.tmps h w) {t : TypeId} {x : Operand} (ho : o.op = .range t x) (ht : P.underlying t = some .string) {x' : Opnd} (hx : cOpnd gl x = some x')
    (hs : step orc base draw (.range x') e h = some (v, e', h')) : Gives N0 P w0 g a w (execOp a.eval o) v e' h' := by
  simp only [step, Option.bnd_eq_some_iff] at hs
  obtain ⟨p, hp, hs⟩ := hs
  have h1 := rv_ev hgl k hx hp
  generalize hA : a.eval x = A at h1
  cases h1 <;> (try simp only at hs) <;> (try cases hs)
  rename_i s q hq
  have hm : MadeBy w (w.alloc (.stringIter q 0)) (.stringIter q 0) := .inl rfl
  obtain ⟨g', hx1, hok, hn, hι, _, _⟩ := ok_newbox k hm (.iter s 0) none default (fun n T hn => by cases hn) (fun g' hx1 hι hhw htk => ⟨by rw [hι]; exact ok_size k, by rw [hι]; exact hhw, q, hq, by rw [hι]; exact hm.at⟩)
  refine ⟨_, .pointer (some ⟨w.heap.size, 0, none⟩), _, g', ?_, .inl rfl, hx1, hok, ?_⟩
  · simp [execOp, ho, hA, Instr.range, run_underlying ht]
  · rw [← hι]; exact .it _ (by omega)

theorem g_next (k : Ok (N0 := N0) w0 g e a.tmps h w) {x : Operand} (ho : o.op = .next x true) {x' : Opnd} (hx : cOpnd gl x = some x')
    (hs : step orc base draw (.next x') e h = some (v, e', h')) : Gives N0 P w0 g a w (execOp a.eval o) v e' h' := by
  simp only [step, Option.bnd_eq_some_iff] at hs
  obtain ⟨p, hp, hs⟩ := hs
  have h1 := rv_ev hgl k hx hp
  generalize hA : a.eval x = A at h1
  cases h1 <;> (try simp only at hs) <;> (try cases hs)
  rename_i b hb
  simp only [Option.bnd_eq_some_iff] at hs
  obtain ⟨⟨s, pos⟩, hit, hs⟩ := hs
  have hbx := box_of_iter hit
  have hk := k.box b _ hbx
  simp only [BoxOk] at hk
  obtain ⟨k1, k2, s', k3, k4⟩ := hk
  have hsz : s.length = s'.size := by rw [← k3]; simp
  have hsb : s' = ⟨s.toArray⟩ := by apply ByteArray.ext; rw [← k3]
  have hget : (getObj (g.ι b)).run P w = .ok (.stringIter s' pos) w := by simp [getObj, Sem.run, k4]
  split at hs
  · rename_i hlt
    simp only [Option.some.injEq, Prod.mk.injEq] at hs
    obtain ⟨rfl, rfl, rfl⟩ := hs
    have hr : runeAt s pos = Utf8.decode s' pos := by unfold runeAt; rw [hsb]
    let w1 : World := { w with heap := w.heap.setIfInBounds (g.ι b) (.stringIter s' (pos + (Utf8.decode s' pos).2)) }
    have hset : (setObj (g.ι b) (.stringIter s' (pos + (Utf8.decode s' pos).2))).run P w = .ok () w1 := by
      simp only [setObj, Sem.run, k4]
      rfl
    have hheap : ∀ c, c ≠ g.ι b → w1.heap[c]? = w.heap[c]? := fun c hc => by
      show (w.heap.setIfInBounds _ _)[c]? = _
      rw [Array.getElem?_setIfInBounds_ne (fun hq => hc hq.symm)]
    have hat : w1.heap[g.ι b]? = some (.stringIter s' (pos + (Utf8.decode s' pos).2)) := by
      have := (Array.getElem?_eq_some_iff.1 k4).1
      show (w.heap.setIfInBounds _ _)[g.ι b]? = _
      simp [this]
    have hcell : ∀ c o, w1.cell? ⟨c, o, none⟩ = w.cell? ⟨c, o, none⟩ := by
      intro c o
      by_cases hc : c = g.ι b
      · subst hc; simp only [World.cell?, hat, k4]
      · simp only [World.cell?, hheap c hc]
    have hx1 : Ext N0 g w g w1 := ⟨Nat.le_refl _, fun _ _ => rfl, fun c m hm => ⟨m, hm, Nat.le_refl _⟩, fun c m o _ _ => hcell c o, fun c o _ => hcell c o, fun t ht => ⟨Nat.le_refl _, fun _ => rfl⟩⟩
    have hbl : Below N0 w w1 := ⟨rfl, rfl, rfl, by show _ ≤ (w.heap.setIfInBounds _ _).size; simp, fun c hc => hheap c (by omega)⟩
    have hok : Ok (N0 := N0) w0 g e a.tmps (setBx h b (.iter s (pos + (runeAt s pos).2))) w1 := by
      refine ok_setbox k hbx hx1 rfl hbl (.inl rfl) (fun c _ hc => ⟨hheap c hc, rfl⟩) (fun _ _ => rfl) ⟨k1, k2, s', k3, by rw [hat, hr]⟩ (fun c m hm => ?_)
      have := k.arr c m hm
      exact ⟨this.1, by show _ < (w.heap.setIfInBounds _ _).size; simp; exact this.2⟩
    refine ⟨_, .tuple #[.bool true, goInt pos, .int .i32 (Utf8.decode s' pos).1], w1, g, ?_, .inl rfl, hx1, hok, ?_⟩
    · rw [hsz] at hlt
      simp [execOp, ho, hA, Instr.next, hget, hlt, hset]
    · rw [hr]
      refine .tup _ _ rfl fun j y hy => ?_
      match j with
      | 0 => simp at hy; subst hy; exact .bool _
      | 1 => simp at hy; subst hy; exact .int _ _
      | 2 => simp at hy; subst hy; exact .int _ _
      | j + 3 => simp at hy
  · rename_i hlt
    simp only [Option.some.injEq, Prod.mk.injEq] at hs
    obtain ⟨rfl, rfl, rfl⟩ := hs
    refine gives_pure (u := .tuple #[.bool false]) k ?_ (.tup _ _ rfl fun j y hy => ?_)
    · rw [hsz] at hlt
      simp [execOp, ho, hA, Instr.next, hget, hlt]
    · match j with
      | 0 => simp at hy; subst hy; exact .bool _
      | j + 1 => simp at hy

theorem g_tassert (k : Ok (N0 := N0) w0 g e a.tmps h w) {x : Operand} {xt t : TypeId} {ok : Bool} (ho : o.op = .typeAssert x xt t ok) {d : TypeDesc} (hu : P.underlying t = some d) (hd : ∀ ms, d ≠ .interface ms)
    {z : PV} (hz : zeroV P t = some z) {x' : Opnd} (hx : cOpnd gl x = some x')
    (hs : step orc base draw (.tassert t ok z x') e h = some (v, e', h')) : Gives N0 P w0 g a w (execOp a.eval o) v e' h' := by
  simp only [step, Option.bnd_eq_some_iff] at hs
  obtain ⟨p, hp, hs⟩ := hs
  have h1 := rv_ev hgl k hx hp
  obtain ⟨u, hzu, hzr⟩ : ∃ u, (zeroValue t).run P w = .ok u w ∧ RV N0 g w z u := by
    unfold zeroV at hz
    simp only [Option.bind_eq_some_iff] at hz
    obtain ⟨u, ⟨i, hi, hu'⟩, hy⟩ := hz
    exact ⟨u, run_zero hi hu' w, rv_const u z hy⟩
  have fails : ok = true → (Instr.typeAssert (a.eval x) xt t true).run P w = .ok (.tuple #[u, .bool false]) w → Gives N0 P w0 g a w (execOp a.eval o) (.tup [z, .bool false]) e h := by
    rintro rfl hrun
    refine gives_pure k (u := .tuple #[u, .bool false]) ?_ (.tup _ _ rfl fun j y hy => ?_)
    · simp only [execOp, ho, Sem.run_bind, hrun, Result.andThen, Sem.run_pure]
    · match j with
      | 0 => cases hy; exact hzr
      | 1 => cases hy; exact .bool _
      | j + 2 => simp at hy
  generalize hA : a.eval x = A at h1 fails
  cases h1 <;> (try simp only at hs) <;> (try cases hs)
  case iface t' pp U hr =>
    split at hs
    · rename_i heq
      subst heq
      have hrun : ∀ b, (Instr.typeAssert (.iface t' U) xt t' b).run P w = .ok (if b then .tuple #[U, .bool true] else U) w := by
        intro b
        unfold Instr.typeAssert
        simp only [Sem.run_bind, run_underlying hu, Result.andThen]
        cases d <;> first | exact (hd _ rfl).elim | (simp only [if_true, Sem.run_pure])
      cases ok with
      | true =>
        simp only [if_true, Option.some.injEq, Prod.mk.injEq] at hs
        obtain ⟨rfl, rfl, rfl⟩ := hs
        refine gives_pure k (u := .tuple #[U, .bool true]) ?_ (.tup _ _ rfl fun j y hy => ?_)
        · simp only [execOp, ho, hA, Sem.run_bind, hrun, Result.andThen, Sem.run_pure, if_true]
        · match j with
          | 0 => cases hy; exact hr
          | 1 => cases hy; exact .bool _
          | j + 2 => simp at hy
      | false =>
        simp only [Bool.false_eq_true, if_false, Option.some.injEq, Prod.mk.injEq] at hs
        obtain ⟨rfl, rfl, rfl⟩ := hs
        refine gives_pure k (u := U) ?_ hr
        simp only [execOp, ho, hA, Sem.run_bind, hrun, Result.andThen, Sem.run_pure, Bool.false_eq_true, if_false]
    · rename_i hne
      cases ok with
      | true =>
        simp only [if_true, Option.some.injEq, Prod.mk.injEq] at hs
        obtain ⟨rfl, rfl, rfl⟩ := hs
        refine fails rfl ?_
        unfold Instr.typeAssert
        simp only [Sem.run_bind, run_underlying hu, Result.andThen]
        cases d <;> first | exact (hd _ rfl).elim | (simp only [if_neg hne, if_true, Sem.run_bind, hzu, Result.andThen, Sem.run_pure])
      | false => simp at hs
  case nilif =>
    cases ok with
    | true =>
      simp only [if_true, Option.some.injEq, Prod.mk.injEq] at hs
      obtain ⟨rfl, rfl, rfl⟩ := hs
      refine fails rfl ?_
      unfold Instr.typeAssert
      simp only [Sem.run_bind, run_underlying hu, Result.andThen]
      cases d <;> first | exact (hd _ rfl).elim | (simp only [if_true, Sem.run_bind, hzu, Result.andThen, Sem.run_pure])
    | false => simp at hs
omit hgl in
theorem agg_of_kind {t : TypeId} {kd : Nat} (h : kindK P t = some kd) : aggOf P t = some false := by
  unfold kindK at h
  unfold aggOf
  split at h <;> first | (rename_i hu _; rw [hu]) | cases h
omit hgl in
theorem eqCell_rv {d : Nat} {t : TypeId} {kd : Nat} (h : kindK P t = some kd) {x y : PV} {U V : Value} (r1 : RV N0 g w x U) (r2 : RV N0 g w y V) {b : Bool} (hb : eqCell kd x y = some b) : (Op.equalIn (d + 1) t U V).run P w = .ok b w := by
  unfold kindK at h
  split at h
  · rename_i hu _
    simp only [Option.some.injEq] at h
    subst h
    cases r1 <;> cases r2 <;> simp only [eqCell] at hb <;> (try cases hb)
    exact run_equalIn_bool' w d _ _ _ hu
  · rename_i kk hu _
    simp only [Option.some.injEq] at h
    subst h
    cases r1 <;> cases r2 <;> simp only [eqCell] at hb <;> (try cases hb)
    split at hb
    · rename_i hk
      subst hk
      simp only [Option.some.injEq] at hb
      subst hb
      exact run_equalIn_int w d _ _ _ _ _ hu
    · cases hb
  · rename_i hu _
    simp only [Option.some.injEq] at h
    subst h
    cases r1 <;> cases r2 <;> simp only [eqCell] at hb <;> (try cases hb)
    rename_i l1 q1 h1 l2 q2 h2
    rw [run_equalIn_string w d t _ _ hu, ByteArray.toList_eq, ByteArray.toList_eq, h1, h2]
  · cases h

omit hgl in
theorem eqFields_rv {d : Nat} {us vs : Array Value} {cs ds : List PV} (hus : us.size = cs.length) (hvs : vs.size = ds.length) (hu : ∀ (j : Nat) (x : PV), cs[j]? = some x → RV N0 g w x (us.getD j Go.undef)) (hv : ∀ (j : Nat) (x : PV), ds[j]? = some x → RV N0 g w x (vs.getD j Go.undef)) :
    ∀ (fl : List Field) (off : Nat) (ks : List Nat), flatK P off fl = some ks → ∀ b, eqCells ks (cs.drop off) (ds.drop off) = some b → (Op.eqFields (d + 1) us vs fl).run P w = .ok b w
  | [], off, ks, hf, b, hb => by
    simp only [flatK, Option.some.injEq] at hf
    subst hf
    cases hcd : cs.drop off <;> cases hdd : ds.drop off <;> rw [hcd, hdd] at hb <;> simp [eqCells] at hb
    subst hb; rfl
  | f :: fl, off, ks, hf, b, hb => by
    simp only [flatK] at hf
    split at hf
    · rename_i hc
      simp only [Bool.and_eq_true, beq_iff_eq, bne_iff_ne, ne_eq] at hc
      obtain ⟨h1, h2⟩ := hc
      simp only [Option.bind_eq_some_iff, Option.map_eq_some_iff] at hf
      obtain ⟨kd, hkd, ks', hks, rfl⟩ := hf
      cases hcd : cs.drop off with
      | nil => rw [hcd] at hb; simp [eqCells] at hb
      | cons x xs =>
        cases hdd : ds.drop off with
        | nil => rw [hcd, hdd] at hb; simp [eqCells] at hb
        | cons y ys =>
          rw [hcd, hdd] at hb
          simp only [eqCells, Option.bnd_eq_some_iff, Option.some.injEq] at hb
          obtain ⟨b1, hb1, b2, hb2, rfl⟩ := hb
          have hx : cs[off]? = some x := by have := List.getElem?_drop (xs := cs) (i := off) (j := 0); rw [hcd] at this; simpa using this.symm
          have hy : ds[off]? = some y := by have := List.getElem?_drop (xs := ds) (i := off) (j := 0); rw [hdd] at this; simpa using this.symm
          have l1 : off < us.size := by rw [hus]; exact (List.getElem?_eq_some_iff.1 hx).1
          have l2 : off < vs.size := by rw [hvs]; exact (List.getElem?_eq_some_iff.1 hy).1
          have x1 : us[off]? = some (us.getD off Go.undef) := by simp [Array.getD_eq_getD_getElem?, l1]
          have y1 : vs[off]? = some (vs.getD off Go.undef) := by simp [Array.getD_eq_getD_getElem?, l2]
          have ih := eqFields_rv (d := d) hus hvs hu hv fl (off + 1) ks' hks b2 (by
            rw [show cs.drop (off + 1) = xs by rw [← List.drop_drop, hcd]; rfl, show ds.drop (off + 1) = ys by rw [← List.drop_drop, hdd]; rfl]; exact hb2)
          have hag := agg_of_kind hkd
          have hpart : ∀ (W : Array Value) (V : Value), W[off]? = some V → (Go.part f.type W f.offset).run P w = .ok V w := by
            intro W V hV
            unfold Go.part
            simp only [Sem.run_bind, run_isAgg' hag, Result.andThen, Bool.false_eq_true, if_false, h1, hV]
            rfl
          have heq := eqCell_rv (d := d) hkd (hu off x hx) (hv off y hy) hb1
          simp only [Op.eqFields, ne_eq, h2, not_false_eq_true, if_true, Sem.run_bind, hpart us _ x1, hpart vs _ y1, Result.andThen, heq]
          cases b1 with
          | true => simpa using ih
          | false => simp
    · cases hf

theorem g_eqv (k : Ok (N0 := N0) w0 g e a.tmps h w) {op : BinOp} {t t' : TypeId} {x y : Operand} {fs : Array Field} {ks : List Nat} (ho : o.op = .binOp op t x y t') (hu : P.underlying t = some (.struct fs)) (hop : isEq op = true) (hst : P.stoodInHeld t = false) (hgt : P.eqGuardType P.depth t = false)
    (hfl : flatK P 0 fs.toList = some ks) {x' y' : Opnd} (hx : cOpnd gl x = some x') (hy : cOpnd gl y = some y')
    (hs : step orc base draw (.eqv (isNeq op) ks x' y') e h = some (v, e', h')) : Gives N0 P w0 g a w (execOp a.eval o) v e' h' := by
  simp only [step, Option.bnd_eq_some_iff] at hs
  obtain ⟨p, hp, q, hq, hs⟩ := hs
  have h1 := rv_ev hgl k hx hp
  have h2 := rv_ev hgl k hy hq
  generalize hA : a.eval x = A at h1
  generalize hB : a.eval y = B at h2
  cases h1 <;> (try simp only at hs) <;> (try cases hs)
  rename_i cs us hus hru
  cases h2 <;> (try simp only at hs) <;> (try cases hs)
  rename_i ds vs hvs hrv
  simp only [Option.bnd_eq_some_iff, Option.some.injEq, Prod.mk.injEq] at hs
  obtain ⟨b, hb, rfl, rfl, rfl⟩ := hs
  have hfo : P.fieldsOf t = fs := by simp [Program.fieldsOf, hu]
  have heq : (Op.equalIn 10000 t (.agg us) (.agg vs)).run P w = .ok b w := by
    rw [run_equalIn_struct w 9999 t us vs (by rw [hfo]; exact hu) hst, hfo]
    exact eqFields_rv (d := 9998) hus hvs hru hrv fs.toList 0 ks hfl b (by simpa using hb)
  refine gives_pure k ?_ (.bool _)
  have hg := run_eqGuard_agg (P := P) w op t x y us vs hgt
  cases op <;> simp only [isEq] at hop <;> (try cases hop)
  · simp only [execOp, ho, hA, hB, Sem.run_bind, hg, Result.andThen, run_eql_struct, heq, isNeq, Bool.false_eq_true, if_false, Sem.run_pure]
  · simp only [execOp, ho, hA, hB, Sem.run_bind, hg, Result.andThen, run_neq_struct, heq, isNeq, if_true, Sem.run_pure]
end
end Go.Am
