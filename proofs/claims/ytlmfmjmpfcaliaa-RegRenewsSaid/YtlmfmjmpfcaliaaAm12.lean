/- 'Am': the operations, one by one (sixth part): append.
   By the session's AI agent. -/
import Derived.Test.YtlmfmjmpfcaliaaAm11
namespace Go.Am
open Go.RowKit (Below)
set_option linter.unusedVariables false
set_option linter.unusedSimpArgs false

section
variable {N0 : Nat} {P : Program} {w0 : World} {g : G} {e : Env} {a : Act} {h : Hp} {w : World}
variable {o : Oper} {box : Bool} {orc : Orc} {base : Nat} {draw : Bool} {aop : AOp} {v : PV} {e' : Env} {h' : Hp}

theorem strip_cells (v : PV) : (strip v).cells.length = v.cells.length := by
  cases v with
  | sl o z e => cases o <;> rfl
  | _ => rfl

theorem elem_of_scalar {x : PV} (hx : scalar x = true) : x.cells = [x] := by cases x <;> simp_all [PV.cells, scalar]

/-- The cells of a source of append. -/
theorem src_rv (k : Ok (N0 := N0) w0 g e a.tmps h w) {sz : Nat} (hpos : sz ≠ 0) {u : PV} {A : Value} (hr : RV N0 g w u A) {xs : List PV} (hx : elems h u = some xs) (hs : xs.all (fun x => x.cells.length == sz) = true) :
    (Builtin.lenOf A).run P w = .ok xs.length w ∧ ∃ news : Array Value, (∀ w1 : World, w1 = w ∨ w1 = w.drew → (Builtin.firstCells sz xs.length A).run P w1 = .ok news w1) ∧ Holds N0 g w sz xs news := by
  have hsz : ∀ (i : Nat) (x : PV), xs[i]? = some x → x.cells.length = sz := by
    intro i x hi
    have := List.all_eq_true.1 hs x (List.mem_of_getElem? hi)
    simpa using this
  cases hr <;> simp only [elems] at hx <;> (try cases hx)
  case nils =>
    refine ⟨by simp [Builtin.lenOf], #[], fun w1 _ => by simp [Builtin.firstCells], by simp, by simp, by simp⟩
  case sl ow sz' c o' cap uu q7 q1 q2 q3 q4 q5 q6 q8 =>
    refine ⟨by simp [Builtin.lenOf], ((List.range (xs.length * sz)).map fun q => uu (q / sz) (q % sz)).toArray, ?_, by simp, hsz, ?_⟩
    · intro w1 hw1
      simp only [Builtin.firstCells]
      refine run_loadCells (P := P) w1 ⟨c, o', q7⟩ _ (fun q => uu (q / sz) (q % sz)) (fun q hq => ?_)
      obtain rfl : q7 = none := q8 (by rintro rfl; simp at hq)
      have hd : q / sz < xs.length := Nat.div_lt_of_lt_mul (by rwa [Nat.mul_comm] at hq)
      have hm : q % sz < sz := Nat.mod_lt _ (by omega)
      obtain ⟨x0, hx0⟩ : ∃ x, xs[q / sz]? = some x := ⟨_, List.getElem?_eq_getElem hd⟩
      have hszz : sz' = sz := by rw [← q3 _ _ hx0, hsz _ _ hx0]
      subst hszz
      have := q4 (q / sz') (q % sz') hd hm
      rw [show q / sz' * sz' + q % sz' = q by rw [Nat.mul_comm]; exact Nat.div_add_mod q sz'] at this
      rw [add_addr]
      rcases hw1 with rfl | rfl
      · exact this
      · exact this
    · intro i j x y hi hj
      have hil : i < xs.length := (List.getElem?_eq_some_iff.1 hi).1
      have hjl : j < sz := by rw [← hsz i x hi]; exact (List.getElem?_eq_some_iff.1 hj).1
      have hlt := mul_lt_of hil hjl
      have e1 : (i * sz + j) / sz = i := by rw [Nat.mul_comm, Nat.mul_add_div (by omega), Nat.div_eq_of_lt hjl, Nat.add_zero]
      have e2 : (i * sz + j) % sz = j := by rw [Nat.mul_comm, Nat.mul_add_mod, Nat.mod_eq_of_lt hjl]
      have := q5 i j x y hi hj
      simpa [Array.getD_eq_getD_getElem?, hlt, e1, e2] using this
  case bsl b off len sz' cap hb hl =>
    split at hx
    · rename_i h1
      subst h1
      simp only [Option.bnd_eq_some_iff] at hx
      obtain ⟨cs, hcs, hx⟩ := hx
      split at hx
      · rename_i hcond
        obtain ⟨hle, hsc⟩ := hcond
        simp only [Option.some.injEq] at hx
        subst hx
        obtain ⟨uu, u1, u2⟩ := box_cell k hcs
        have hlen : (((cs.drop off).take len).map strip).length = len := by simp; omega
        refine ⟨by rw [hlen]; simp [Builtin.lenOf], ?_⟩
        rcases Nat.eq_zero_or_pos len with h0 | hp
        · subst h0
          exact ⟨#[], fun w1 _ => by simp [Builtin.firstCells, loadCells, loadCellsFrom], by simp, by simp, by simp⟩
        · have h1 : sz = 1 := by
            have hoff : off < cs.length := by omega
            have hget : (((cs.drop off).take len).map strip)[0]? = some (strip cs[off]) := by
              rw [List.getElem?_map, List.getElem?_take, if_pos hp, List.getElem?_drop, Nat.add_zero, List.getElem?_eq_getElem hoff]; rfl
            have := hsz 0 _ hget
            rw [strip_cells, elem_of_scalar] at this
            · simpa using this.symm
            · have hmem : cs[off] ∈ (cs.drop off).take len := List.mem_of_getElem? (i := 0) (by rw [List.getElem?_take, if_pos hp, List.getElem?_drop, Nat.add_zero, List.getElem?_eq_getElem hoff])
              exact List.all_eq_true.1 hsc _ hmem
          subst h1
          refine ⟨((List.range len).map fun q => uu (off + q)).toArray, ?_, by simp [hlen]; omega, hsz, ?_⟩
          · intro w1 hw1
            simp only [Builtin.firstCells, hlen, Nat.mul_one]
            refine run_loadCells (P := P) w1 ⟨g.ι b, off, none⟩ _ (fun q => uu (off + q)) (fun q hq => ?_)
            rw [add_addr]
            have := u1 (off + q) (by omega)
            rcases hw1 with rfl | rfl
            · exact this
            · exact this
          · intro i j x y hi hj
            have hil : i < len := by rw [← hlen]; exact (List.getElem?_eq_some_iff.1 hi).1
            have hj0 : j = 0 := by have := (List.getElem?_eq_some_iff.1 hj).1; have := hsz i x hi; omega
            subst hj0
            rw [List.getElem?_map, Option.map_eq_some_iff] at hi
            obtain ⟨c0, hc0, rfl⟩ := hi
            have hmem : c0 ∈ (cs.drop off).take len := List.mem_of_getElem? hc0
            have hsc0 := List.all_eq_true.1 hsc _ hmem
            rw [List.getElem?_take, if_pos hil, List.getElem?_drop] at hc0
            have hss : scalar (strip c0) = true := by
              cases c0 with
              | sl o z e => cases o <;> rfl
              | _ => exact hsc0
            rw [elem_of_scalar hss] at hj
            simp only [List.getElem?_cons_zero, Option.some.injEq] at hj
            subst hj
            have := rv_strip (u2 _ _ hc0)
            simpa [Array.getD_eq_getD_getElem?, hil] using this
      · cases hx
    · cases hx
  case str l s hl =>
    have hls : l.length = s.size := by rw [← hl]; simp
    refine ⟨by simp [Builtin.lenOf, hls], s.data.map fun b => .int .u8 b.toNat, ?_, ?_, hsz, ?_⟩
    · intro w1 _
      simp only [Builtin.firstCells, List.length_map, hls]
      have : (s.extract 0 s.size) = s := by
        apply ByteArray.ext
        simp
      rw [this]
      simp
    · rcases Nat.eq_zero_or_pos l.length with h0 | hp
      · simp [← hls, h0]
      · have := hsz 0 (.int .u8 (l[0]).toNat) (by simp [hp])
        have h1 : sz = 1 := by simpa [PV.cells] using this.symm
        subst h1
        simp [hls]
    · intro i j x y hi hj
      have hil : i < l.length := by have := (List.getElem?_eq_some_iff.1 hi).1; simpa using this
      have h1 := hsz i x hi
      simp only [List.getElem?_map, List.getElem?_eq_getElem hil, Option.map_some, Option.some.injEq] at hi
      subst hi
      simp only [PV.cells, List.length_singleton] at h1
      subst h1
      cases j with
      | zero =>
        simp [PV.cells] at hj
        subst hj
        have hget : s.data[i]? = some l[i] := by
          rw [← Array.getElem?_toList, hl, List.getElem?_eq_getElem hil]
        simp only [Nat.mul_one, Nat.add_zero, Array.getD_eq_getD_getElem?, Array.getElem?_map, hget, Option.map_some, Option.getD_some]
        exact .int _ _
      | succ j => simp [PV.cells] at hj

theorem run_append_any {t u ty el : TypeId} {i : TypeInfo} {z : Value} (ht : P.underlying t = some (.slice el)) (hu : P.underlying u = some .string ∨ ∃ el', P.underlying u = some (.slice el')) (hi : P.info? el = some i) (hz : i.zero = some z)
    (b : Option Addr) (sLen : Nat) (x : Value) (n : Nat) (hlen : (Builtin.lenOf x).run P w = .ok n w) (olds news : Array Value)
    (hold : ∀ w1 : World, w1 = w ∨ w1 = w.drew → (Builtin.firstCells i.size sLen (.slice b sLen sLen)).run P w1 = .ok olds w1)
    (hnew : ∀ w1 : World, w1 = w ∨ w1 = w.drew → (Builtin.firstCells i.size n x).run P w1 = .ok news w1)
    (hn : 0 < n) (h63 : ((sLen + n : Nat) : Int) ≤ 9223372036854775807) (hfit : Builtin.nextslicecap (sLen + n) sLen * i.bytes ≤ 281474976710656) :
    (Builtin.append_ #[t, u] ty #[.slice b sLen sLen, x]).run P w =
      .ok (.slice (some ⟨w.heap.size, 0, none⟩) (sLen + n) (grownCap w (sLen + n) sLen el)) (w.drew.alloc (.cells (olds ++ news ++ Builtin.zeroCells z.cells (grownCap w (sLen + n) sLen el - (sLen + n))) el)) := by
  have hn' : ¬ (sLen + n ≤ sLen) := by omega
  have hn'' : n ≠ 0 := by omega
  have h63' : ¬ (9223372036854775807 < ((sLen : Int) + (n : Int))) := by omega
  have h48' : ¬ (281474976710656 < Builtin.nextslicecap (sLen + n) sLen * i.bytes) := by omega
  have h1 := hold w.drew (.inr rfl)
  have h2 := hnew w.drew (.inr rfl)
  rcases hu with hu | ⟨el', hu⟩ <;> simp [Builtin.append_, run_underlying ht, run_underlying hu, Go.sizeOf, typeInfo, zeroValue, hi, hz, hlen, hn', hn'', h63', h48', Question.forced, h1, h2, newRow, grownCap]

theorem run_append_none {t u ty el : TypeId} {i : TypeInfo} (ht : P.underlying t = some (.slice el)) (hu : P.underlying u = some .string ∨ ∃ el', P.underlying u = some (.slice el')) (hi : P.info? el = some i)
    (b : Option Addr) (sLen : Nat) (x : Value) (hlen : (Builtin.lenOf x).run P w = .ok 0 w) (news : Array Value) (hnews : news.size = 0)
    (hnew : (Builtin.firstCells i.size 0 x).run P w = .ok news w) : (Builtin.append_ #[t, u] ty #[.slice b sLen sLen, x]).run P w = .ok (.slice b sLen sLen) w := by
  have h0 : news = #[] := Array.eq_empty_of_size_eq_zero hnews
  subst h0
  rcases hu with hu | ⟨el', hu⟩ <;> (cases b <;> simp [Builtin.append_, run_underlying ht, run_underlying hu, Go.sizeOf, typeInfo, hi, hlen, hnew, storeCells])

theorem g_append (k : Ok (N0 := N0) w0 g e a.tmps h w) {c : Go.Call} (ho : o.op = .call c) (hb : c.callee = .builtin .append) {s x : Operand} {t u el : TypeId} (hargs : c.args = #[s, x]) (htys : c.argTypes = #[t, u])
    (ht : P.underlying t = some (.slice el)) (hu : P.underlying u = some .string ∨ ∃ el', P.underlying u = some (.slice el')) {sz : Nat} (hsz : sizeOf P el = some sz) (hsm : smallBytes P el = true) (hpos : sz ≠ 0) {z : List PV} (hz : zeroOf P el = some z)
    {s' x' : Opnd} (hs' : cOpnd s = some s') (hx' : cOpnd x = some x')
    (hs : step orc base draw (.append sz s' x') e h = some (v, e', h')) : Gives N0 P w0 g a w (execOp a.eval o) v e' h' := by
  simp only [step, Option.bnd_eq_some_iff] at hs
  obtain ⟨p, hp, q, hq, xs, hxs, hs⟩ := hs
  have h1 := rv_ev k hs' hp
  have h2 := rv_ev k hx' hq
  obtain ⟨i, zv, hi, hiz, hzsz, _⟩ := rv_zero (N0 := N0) hz
  have hisz : i.size = sz := by simp only [sizeOf, Option.map_eq_some_iff] at hsz; obtain ⟨i', e1, e2⟩ := hsz; rw [hi] at e1; cases e1; exact e2
  have hbytes : i.bytes ≤ 4096 := by simp only [smallBytes, hi, decide_eq_true_eq] at hsm; exact hsm
  split at hs
  · rename_i hall
    obtain ⟨hlen, news, hnew, hold2⟩ := src_rv (P := P) k hpos h2 hxs hall
    obtain ⟨cs, hrun⟩ := run_of_builtin (P := P) (w := w) (a := a) ho hb
    rw [hargs, htys] at hrun
    simp only [builtin, List.map_toArray, List.map_cons, List.map_nil] at hrun
    have none_ : ∀ (b : Option Addr) (n : Nat), a.eval s = .slice b n n → xs.length = 0 → (execOp a.eval o).run P w = .ok (.value (.slice b n n)) w := by
      intro b n hA hx0
      rw [hrun, hA]
      rw [hx0] at hlen hnew
      have := run_append_none (ty := o.type) ht hu hi b n (a.eval x) hlen news (by rw [hold2.1, hx0, Nat.zero_mul]) (by rw [hisz]; exact hnew w (.inl rfl))
      simp only [Sem.run_bind, this, Result.andThen, Sem.run_pure]
    have some_ : ∀ (b : Option Addr) (es : List PV) (olds : Array Value), a.eval s = .slice b es.length es.length → 0 < xs.length → es.length + xs.length ≤ lim2 →
        (∀ w1 : World, w1 = w ∨ w1 = w.drew → (Builtin.firstCells sz es.length (.slice b es.length es.length)).run P w1 = .ok olds w1) → Holds N0 g w sz es olds →
        Gives N0 P w0 g a w (execOp a.eval o) (.sl .tail sz (es ++ xs.map strip)) e h := by
      intro b es olds hA hx0 hlim hfo hho
      unfold lim2 at hlim
      have hfit : Builtin.nextslicecap (es.length + xs.length) es.length * i.bytes ≤ 281474976710656 := by
        apply growslice_fits (by omega)
        have : (es.length + xs.length) * i.bytes ≤ 17179869184 * 4096 := Nat.mul_le_mul hlim hbytes
        omega
      have hr := run_append_any (ty := o.type) ht hu hi hiz b es.length (a.eval x) xs.length hlen olds news (by rw [hisz]; exact hfo) (by rw [hisz]; exact hnew) hx0 (by omega) hfit
      let us : Array Value := olds ++ news ++ Builtin.zeroCells zv.cells (grownCap w (es.length + xs.length) es.length el - (es.length + xs.length))
      obtain ⟨g', hx1, hok, hhw⟩ := ok_fixed k us el ((es.length + xs.length) * sz) (w.drew.alloc (.cells us el)) (.inr rfl)
      have hcap : es.length + xs.length ≤ grownCap w (es.length + xs.length) es.length el := by
        unfold grownCap
        simp only [Question.cut]
        omega
      have hlen2 : (es ++ xs.map strip).length = es.length + xs.length := by simp
      have husz : (es.length + xs.length) * sz ≤ us.size := by
        have e1 := hho.1
        have e2 := hold2.1
        simp only [us, Array.size_append, e1, e2, Nat.add_mul]
        omega
      refine ⟨_, .slice (some ⟨w.heap.size, 0, none⟩) (es.length + xs.length) (grownCap w (es.length + xs.length) es.length el), _, g', ?_, .inl rfl, hx1, hok, ?_⟩
      · rw [hrun, hA]
        simp only [Sem.run_bind, hr, Result.andThen, Sem.run_pure]
        rfl
      · have key : ∀ i j, i < es.length + xs.length → j < sz → (us.getD (i * sz + j) Go.undef) = if i < es.length then olds.getD (i * sz + j) Go.undef else news.getD ((i - es.length) * sz + j) Go.undef := by
          intro i j hi' hj
          have e1 := hho.1
          have e2 := hold2.1
          by_cases hlt : i < es.length
          · rw [if_pos hlt]
            have := mul_lt_of hlt hj
            simp only [us, Array.getD_eq_getD_getElem?]
            rw [Array.append_assoc, Array.getElem?_append_left (by omega)]
          · rw [if_neg hlt]
            have hge : es.length * sz ≤ i * sz := Nat.mul_le_mul_right _ (by omega)
            have hlt2 : (i - es.length) * sz + j < xs.length * sz := mul_lt_of (by omega) hj
            have hsub : i * sz + j - olds.size = (i - es.length) * sz + j := by rw [e1, Nat.sub_mul]; omega
            simp only [us, Array.getD_eq_getD_getElem?]
            rw [Array.append_assoc, Array.getElem?_append_right (by omega), Array.getElem?_append_left (by rw [hsub]; omega), hsub]
        have hget : ∀ (i : Nat) (x0 : PV), (es ++ xs.map strip)[i]? = some x0 → (i < es.length ∧ es[i]? = some x0) ∨ (es.length ≤ i ∧ ∃ x1, xs[i - es.length]? = some x1 ∧ x0 = strip x1) := by
          intro i x0 hx
          by_cases hlt : i < es.length
          · rw [List.getElem?_append_left hlt] at hx; exact .inl ⟨hlt, hx⟩
          · rw [List.getElem?_append_right (by omega), List.getElem?_map, Option.map_eq_some_iff] at hx
            obtain ⟨x1, hx1, rfl⟩ := hx
            exact .inr ⟨by omega, x1, hx1, rfl⟩
        have := RV.sl (N0 := N0) (g := g') (w := w.drew.alloc (.cells us el)) .tail sz (es ++ xs.map strip) w.heap.size 0 (grownCap w (es.length + xs.length) es.length el) (fun i j => us.getD (i * sz + j) Go.undef)
          (by omega) (by simp) ?_ ?_ ?_ ?_ none (fun _ => rfl)
        · rw [hlen2] at this; exact this
        · intro i x0 hx
          rcases hget i x0 hx with ⟨_, hx'⟩ | ⟨_, x1, hx', rfl⟩
          · exact hho.2.1 i x0 hx'
          · rw [strip_cells]; exact hold2.2.1 _ x1 hx'
        · intro i j hi' hj
          rw [hlen2] at hi'
          have hlt := mul_lt_of hi' hj
          rw [Nat.zero_add]
          have := World.cell?_alloc_new w.drew us el (i * sz + j)
          rw [show w.drew.heap.size = w.heap.size from rfl] at this
          rw [this]
          have : i * sz + j < us.size := by omega
          simp [Array.getD_eq_getD_getElem?, this]
        · intro i j x0 y hx hy
          have hj : ∀ n, x0.cells.length = n → j < n := by intro n hn; rw [← hn]; exact (List.getElem?_eq_some_iff.1 hy).1
          rcases hget i x0 hx with ⟨hlt, hx'⟩ | ⟨hge, x1, hx', rfl⟩
          · rw [key i j (by omega) (hj _ (hho.2.1 i x0 hx')), if_pos hlt]
            exact (hho.2.2 i j x0 y hx' hy).mono hx1
          · have hlt : i - es.length < xs.length := (List.getElem?_eq_some_iff.1 hx').1
            have hjj : j < sz := hj sz (by rw [strip_cells]; exact hold2.2.1 _ x1 hx')
            rw [key i j (by omega) hjj, if_neg (by omega)]
            -- a cell without its room
            have hy' : x1.cells[j]? = some y ∨ ∃ y1, x1.cells[j]? = some y1 ∧ y = strip y1 := by
              cases x1 with
              | sl o z e =>
                right
                cases j with
                | zero => cases o <;> simp [strip, PV.cells] at hy <;> subst hy <;> exact ⟨_, rfl, rfl⟩
                | succ j => cases o <;> simp [strip, PV.cells] at hy
              | _ => left; exact hy
            rcases hy' with hy' | ⟨y1, hy', rfl⟩
            · exact (hold2.2.2 _ j x1 y hx' hy').mono hx1
            · exact rv_strip ((hold2.2.2 _ j x1 y1 hx' hy').mono hx1)
        · intro _
          exact .inr ⟨_, hhw, by rw [hlen2]; omega⟩
    generalize hA : a.eval s = A at h1 none_ some_
    cases h1 <;> (try simp only at hs) <;> (try cases hs)
    case nils =>
      split at hs
      · rename_i hl
        simp only [Option.some.injEq, Prod.mk.injEq] at hs
        obtain ⟨rfl, rfl, rfl⟩ := hs
        rcases Nat.eq_zero_or_pos xs.length with h0 | hp
        · have : xs = [] := List.eq_nil_of_length_eq_zero h0
          subst this
          simp only [List.isEmpty_nil, if_true]
          exact gives_pure k (none_ none 0 rfl rfl) .nils
        · have hne : xs.isEmpty = false := by cases xs <;> simp at hp ⊢
          rw [hne]
          simp only [Bool.false_eq_true, if_false]
          have := some_ none [] #[] rfl hp (by simpa using hl) (fun w1 _ => by simp [Builtin.firstCells]) ⟨by simp, by simp, by simp⟩
          simpa using this
      · cases hs
    case sl ow sz' es c' o' cap uu q1 q2 q3 q4 q5 q6 q7 q8 =>
      cases ow <;> (try simp only at hs) <;> (try cases hs)
      case full =>
        split at hs
        · rename_i hl
          obtain ⟨rfl, hl⟩ := hl
          simp only [Option.some.injEq, Prod.mk.injEq] at hs
          obtain ⟨rfl, rfl, rfl⟩ := hs
          have hcap := q2 rfl
          subst hcap
          rcases Nat.eq_zero_or_pos xs.length with h0 | hp
          · have : xs = [] := List.eq_nil_of_length_eq_zero h0
            subst this
            simp only [List.isEmpty_nil, if_true]
            exact gives_pure k (none_ _ es.length rfl rfl) (.sl .full sz' es c' o' es.length uu q1 q2 q3 q4 q5 q6 q7 q8)
          · have hne : xs.isEmpty = false := by cases xs <;> simp at hp ⊢
            rw [hne]
            simp only [Bool.false_eq_true, if_false]
            refine some_ (some ⟨c', o', q7⟩) es ((List.range (es.length * sz')).map fun q => uu (q / sz') (q % sz')).toArray rfl hp hl ?_ ⟨by simp, q3, ?_⟩
            · intro w1 hw1
              simp only [Builtin.firstCells]
              refine run_loadCells (P := P) w1 ⟨c', o', q7⟩ _ (fun q => uu (q / sz') (q % sz')) (fun q hq => ?_)
              obtain rfl : q7 = none := q8 (by rintro rfl; simp at hq)
              have hd' : q / sz' < es.length := Nat.div_lt_of_lt_mul (by rwa [Nat.mul_comm] at hq)
              have hm : q % sz' < sz' := Nat.mod_lt _ (by omega)
              have := q4 (q / sz') (q % sz') hd' hm
              rw [show q / sz' * sz' + q % sz' = q by rw [Nat.mul_comm]; exact Nat.div_add_mod q sz'] at this
              rw [add_addr]
              rcases hw1 with rfl | rfl
              · exact this
              · exact this
            · intro i j x0 y hi' hj
              have hil : i < es.length := (List.getElem?_eq_some_iff.1 hi').1
              have hjl : j < sz' := by rw [← q3 i x0 hi']; exact (List.getElem?_eq_some_iff.1 hj).1
              have hlt := mul_lt_of hil hjl
              have e1 : (i * sz' + j) / sz' = i := by rw [Nat.mul_comm, Nat.mul_add_div (by omega), Nat.div_eq_of_lt hjl, Nat.add_zero]
              have e2 : (i * sz' + j) % sz' = j := by rw [Nat.mul_comm, Nat.mul_add_mod, Nat.mod_eq_of_lt hjl]
              have := q5 i j x0 y hi' hj
              simpa [Array.getD_eq_getD_getElem?, hlt, e1, e2] using this
        · cases hs
  · cases hs
end
end Go.Am
